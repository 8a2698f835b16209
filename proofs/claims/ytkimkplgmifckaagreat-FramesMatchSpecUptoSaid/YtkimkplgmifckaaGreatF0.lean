/-
  Part of the proof that FramesMatchSpec returns true: the contracts of sameFrames and coreFault.
  No condition.
-/
import Derived.Test.YtkimkplgmifckaaGreatD3
import Derived.Test.YtkimkplgmifckaaGreatE0
set_option linter.unusedSimpArgs false
set_option linter.unusedVariables false
set_option maxRecDepth 20000
set_option maxHeartbeats 8000000
namespace Go.Den.Z
open Go.Proofs
theorem sameFrames_ok (l : List (Int × Int)) (rows : List (List CV)) (hrows : rows = l.map frE) (hl : l.length ≤ 1048576) : PCalls P 11 [.c (.sl rows), .c (.sl rows)] [] (bV true) := by
  suffices h : ∃ v : Bool, v = true ∧ PCalls P 11 [.c (.sl rows), .c (.sl rows)] [] (bV v) by
    obtain ⟨v, rfl, h⟩ := h
    exact h
  have hll : rows.length = l.length := by rw [hrows]; simp
  obtain ⟨x, hx⟩ := counter 0
  obtain ⟨oi, ob, op, os, on, or_, om, hω⟩ := shields
  have hi : ∀ f, oi f = f () := hω.i
  have hb : ∀ f, ob f = f () := hω.b
  have hp : ∀ f, op f = f () := hω.p
  have hs : ∀ f, os f = f () := hω.s
  have hr : ∀ f, or_ f = f () := hω.r
  refine PCalls.runE hmix hω q_linkhouselaw8_sameFrames ?_
  unfold c_linkhouselaw8_sameFrames
  conv => arg 4; cbv
  split
  · rename_i h
    exfalso
    simp only [bIf_rec, pIf_rec, bNot_rec, hb, hi, hp, Int.ofNat_eq_natCast] at h
    simp at h
  rename_i h
  simp only [h]
  conv => arg 4; cbv
  refine meanE_loopF hω [0, 1, 5] l.length (fun _ => True) (fun i => [(5, iV (x i))]) ?_ (fun e he => by cases he) ?_ ?_ fun i hiN hok => ?_
  · (conv => lhs; cbv); (conv => rhs; cbv); simp only [hx 0]; rfl
  · simp [FgtOk, undT, undEs, undEs.undRows, undL, AV.und]
  · first | (simp [bIf_rec, pIf_rec, bNot_rec, hb, hi, hp, Int.ofNat_eq_natCast, oConds, strip, St.ev]; done) | (simp only [bIf_rec, pIf_rec, bNot_rec, hb, hi, hp, Int.ofNat_eq_natCast]; done) | (simp [bIf_rec, pIf_rec, bNot_rec, hb, hi, hp, Int.ofNat_eq_natCast, oConds, strip, St.ev]; (repeat' apply And.intro) <;> first | exact Int.NonNeg.mk _ | omega)
  have hxi : x i = i := by rw [hx]; omega
  conv => arg 4; cbv
  split
  · rename_i h
    simp only [h]
    simp only [bIf_rec, pIf_rec, bNot_rec, hb, hi, hp, Int.ofNat_eq_natCast] at h
    simp at h
    conv => arg 4; cbv
    obtain ⟨q, hq⟩ : ∃ q, l[(x i).toNat]? = some q := ⟨l[(x i).toNat]'(by omega), by simp⟩
    obtain ⟨qa, qb⟩ := q
    refine elemM hω hrows ?_ ?_ (fun _ => rfl) ?_ fun q2 hq2 => ?_
    · omega
    · omega
    · first | (simp [bIf_rec, pIf_rec, bNot_rec, hb, hi, hp, Int.ofNat_eq_natCast, oConds, strip, St.ev]; done) | (simp only [bIf_rec, pIf_rec, bNot_rec, hb, hi, hp, Int.ofNat_eq_natCast]; done) | (simp [bIf_rec, pIf_rec, bNot_rec, hb, hi, hp, Int.ofNat_eq_natCast, oConds, strip, St.ev]; (repeat' apply And.intro) <;> first | exact Int.NonNeg.mk _ | omega)
    obtain rfl := Option.some.inj (hq.symm.trans hq2)
    simp only [frE]
    conv => arg 4; cbv
    refine elemM hω hrows ?_ ?_ (fun _ => rfl) ?_ fun q2 hq2 => ?_
    · omega
    · omega
    · first | (simp [bIf_rec, pIf_rec, bNot_rec, hb, hi, hp, Int.ofNat_eq_natCast, oConds, strip, St.ev]; done) | (simp only [bIf_rec, pIf_rec, bNot_rec, hb, hi, hp, Int.ofNat_eq_natCast]; done) | (simp [bIf_rec, pIf_rec, bNot_rec, hb, hi, hp, Int.ofNat_eq_natCast, oConds, strip, St.ev]; (repeat' apply And.intro) <;> first | exact Int.NonNeg.mk _ | omega)
    obtain rfl := Option.some.inj (hq.symm.trans hq2)
    simp only [frE]
    conv => arg 4; cbv
    split
    · rename_i h2
      exfalso
      simp only [bIf_rec, pIf_rec, bNot_rec, hb, hi, hp, Int.ofNat_eq_natCast] at h2
      simp at h2
    · rename_i h2
      simp only [h2]
      conv => arg 4; cbv
      refine forF_next hok ?_ ?_ trivial (fun e he => by cases he) ?_ ?_
      · (conv => lhs; cbv); (conv => rhs; cbv); simp only [show (oi fun _ => IntKind.wrap .i64 (x i + 1)) = x (i + 1) from by rw [hi, hx, hx, wrap_i64 (by omega)]; push_cast; omega]
      · omega
      · simp [FgtOk, undT, undEs, undEs.undRows, undL, AV.und]
      · first | (simp [bIf_rec, pIf_rec, bNot_rec, hb, hi, hp, Int.ofNat_eq_natCast, oConds, strip, St.ev]; done) | (simp only [bIf_rec, pIf_rec, bNot_rec, hb, hi, hp, Int.ofNat_eq_natCast]; done) | (simp [bIf_rec, pIf_rec, bNot_rec, hb, hi, hp, Int.ofNat_eq_natCast, oConds, strip, St.ev]; (repeat' apply And.intro) <;> first | exact Int.NonNeg.mk _ | omega)
  · rename_i h
    simp only [h]
    conv => arg 4; cbv
    refine roundG_out hω ?_ (fun h => by cases h) ?_
    · conv => arg 4; cbv
      refine meanE_fin hω true (by (conv => lhs; cbv); all_goals rfl) ⟨rfl, rfl⟩ rfl (fun e he => by cases he) ?_ ?_
      · first | (simp [bIf_rec, pIf_rec, bNot_rec, hb, hi, hp, Int.ofNat_eq_natCast, oConds, strip, St.ev]; done) | (simp only [bIf_rec, pIf_rec, bNot_rec, hb, hi, hp, Int.ofNat_eq_natCast]; done) | (simp [bIf_rec, pIf_rec, bNot_rec, hb, hi, hp, Int.ofNat_eq_natCast, oConds, strip, St.ev]; (repeat' apply And.intro) <;> first | exact Int.NonNeg.mk _ | omega)
      · simp
    · first | (simp [bIf_rec, pIf_rec, bNot_rec, hb, hi, hp, Int.ofNat_eq_natCast, oConds, strip, St.ev]; done) | (simp only [bIf_rec, pIf_rec, bNot_rec, hb, hi, hp, Int.ofNat_eq_natCast]; done) | (simp [bIf_rec, pIf_rec, bNot_rec, hb, hi, hp, Int.ofNat_eq_natCast, oConds, strip, St.ev]; (repeat' apply And.intro) <;> first | exact Int.NonNeg.mk _ | omega)
theorem coreFault_ok (p : Prc) (hpw : p.Wf) (rl rm rc ro : List (List CV)) (hrc : rc = p.cores.map Cor.e) (lz : Bool) (k : Int) (g : Int × Int) (hg : g.1 = 0 → g.2 = 0) (hval : PCalls P 14 [agg [.sl rl, .sl rm, .sl rc, .sl ro, bC lz]] [] (fltV g.1 g.2)) :
    ∃ v : Int × Int, ((g.1 ≠ 0 → v = g) ∧ (g.1 = 0 → (k < 0 ∨ p.cores.length ≤ k) → v = (3, -9)) ∧ (g.1 = 0 → 0 ≤ k → k < p.cores.length → v = (0, 0))) ∧ PCalls P 9 [agg [.sl rl, .sl rm, .sl rc, .sl ro, bC lz], iV k] [] (fltV v.1 v.2) := by
  have hrcl : rc.length = p.cores.length := by rw [hrc]; simp
  have hcl := hpw.cores.1
  have hat := at_ok 3 (-9)
  simp only at hat
  obtain ⟨hi', hhi⟩ : ∃ h : Int, h = p.cores.length - 1 := ⟨_, rfl⟩
  have hin := in_ok k 0 hi'
  obtain ⟨bb, hbb⟩ : ∃ bb : Bool, bb = (decide (0 ≤ k) && decide (k ≤ hi')) := ⟨_, rfl⟩
  rw [← hbb] at hin
  obtain ⟨g1, g2⟩ := g
  simp only at hg hval ⊢
  obtain ⟨oi, ob, op, os, on, or_, om, hω⟩ := shields
  have hi : ∀ f, oi f = f () := hω.i
  have hb : ∀ f, ob f = f () := hω.b
  have hp : ∀ f, op f = f () := hω.p
  have hs : ∀ f, os f = f () := hω.s
  have hr : ∀ f, or_ f = f () := hω.r
  have e1 : (oi fun _ => IntKind.i64.wrap ((oi fun _ => Int.ofNat rc.length) - 1)) = hi' := by
    rw [hi, hi, hrcl, hhi, Int.ofNat_eq_natCast, wrap_i64 (by omega)]
  refine PCalls.runE hmix hω q_linkhouselaw8_coreFault ?_
  unfold c_linkhouselaw8_coreFault
  conv => arg 4; cbv
  refine meanE_call hω (hval.any (by simp [undL, AV.und, agg]) (by simp [AV.und, fltV, agg, undL]) _) ?_ ?_
  · first | (simp [bIf_rec, pIf_rec, bNot_rec, hb, hi, hp, Int.ofNat_eq_natCast, oConds, strip, St.ev]; done) | (simp only [bIf_rec, pIf_rec, bNot_rec, hb, hi, hp, Int.ofNat_eq_natCast]; done) | (simp [bIf_rec, pIf_rec, bNot_rec, hb, hi, hp, Int.ofNat_eq_natCast, oConds, strip, St.ev]; (repeat' apply And.intro) <;> first | exact Int.NonNeg.mk _ | omega)
  conv => arg 4; cbv
  simp only [e1]
  by_cases hg0 : g1 = 0
  · subst hg0
    obtain rfl := hg rfl
    split
    · rename_i h
      conv => arg 4; cbv
      refine meanE_callG hω (hin.any (by simp [undL, AV.und, iV]) (by simp [AV.und, bV]) _) ?_ ?_
      · first | (simp [bIf_rec, pIf_rec, bNot_rec, hb, hi, hp, Int.ofNat_eq_natCast, oConds, strip, St.ev]; done) | (simp only [bIf_rec, pIf_rec, bNot_rec, hb, hi, hp, Int.ofNat_eq_natCast]; done) | (simp [bIf_rec, pIf_rec, bNot_rec, hb, hi, hp, Int.ofNat_eq_natCast, oConds, strip, St.ev]; (repeat' apply And.intro) <;> first | exact Int.NonNeg.mk _ | omega)
      cases bb
      · conv => arg 4; cbv
        split
        · rename_i h2
          conv => arg 4; cbv
          refine meanE_call hω (hat.any (by simp [undL, AV.und, iV]) (by simp [AV.und, fltV, agg, undL]) _) ?_ ?_
          · first | (simp [bIf_rec, pIf_rec, bNot_rec, hb, hi, hp, Int.ofNat_eq_natCast, oConds, strip, St.ev]; done) | (simp only [bIf_rec, pIf_rec, bNot_rec, hb, hi, hp, Int.ofNat_eq_natCast]; done) | (simp [bIf_rec, pIf_rec, bNot_rec, hb, hi, hp, Int.ofNat_eq_natCast, oConds, strip, St.ev]; (repeat' apply And.intro) <;> first | exact Int.NonNeg.mk _ | omega)
          conv => arg 4; cbv
          refine finFlt hω (a := 3) (b := -9) (by conv => lhs; cbv) ?_ (fun e he => by cases he) ?_ ?_
          · refine ⟨fun h => absurd rfl h, fun _ _ => rfl, fun _ h1 h2 => ?_⟩
            simp at hbb
            omega
          · first | (simp [bIf_rec, pIf_rec, bNot_rec, hb, hi, hp, Int.ofNat_eq_natCast, oConds, strip, St.ev]; done) | (simp only [bIf_rec, pIf_rec, bNot_rec, hb, hi, hp, Int.ofNat_eq_natCast]; done) | (simp [bIf_rec, pIf_rec, bNot_rec, hb, hi, hp, Int.ofNat_eq_natCast, oConds, strip, St.ev]; (repeat' apply And.intro) <;> first | exact Int.NonNeg.mk _ | omega)
          · simp
        · rename_i h2
          exfalso
          simp only [bIf_rec, pIf_rec, bNot_rec, hb, hi, hp, Int.ofNat_eq_natCast, condF] at h2
          simp at h2
      · conv => arg 4; cbv
        split
        · rename_i h2
          exfalso
          simp only [bIf_rec, pIf_rec, bNot_rec, hb, hi, hp, Int.ofNat_eq_natCast, condF] at h2
          simp at h2
        · rename_i h2
          conv => arg 4; cbv
          refine finFlt hω (a := 0) (b := 0) (by conv => lhs; cbv) ?_ (fun e he => by cases he) ?_ ?_
          · refine ⟨fun h => absurd rfl h, fun _ h1 => ?_, fun _ _ _ => rfl⟩
            simp at hbb
            omega
          · first | (simp [bIf_rec, pIf_rec, bNot_rec, hb, hi, hp, Int.ofNat_eq_natCast, oConds, strip, St.ev]; done) | (simp only [bIf_rec, pIf_rec, bNot_rec, hb, hi, hp, Int.ofNat_eq_natCast]; done) | (simp [bIf_rec, pIf_rec, bNot_rec, hb, hi, hp, Int.ofNat_eq_natCast, oConds, strip, St.ev]; (repeat' apply And.intro) <;> first | exact Int.NonNeg.mk _ | omega)
          · simp
    · rename_i h
      exfalso
      simp only [bIf_rec, pIf_rec, bNot_rec, hb, hi, hp, Int.ofNat_eq_natCast] at h
      simp at h
  · split
    · rename_i h
      exfalso
      simp only [bIf_rec, pIf_rec, bNot_rec, hb, hi, hp, Int.ofNat_eq_natCast] at h
      simp at h
      omega
    · rename_i h
      simp only [h]
      conv => arg 4; cbv
      try (split
           · rename_i h3
             exfalso
             simp only [bIf_rec, pIf_rec, bNot_rec, hb, hi, hp, Int.ofNat_eq_natCast] at h h3
             simp_all
           rename_i h3
           conv => arg 4; cbv)
      refine finFlt hω (a := g1) (b := g2) (by conv => lhs; cbv) ?_ (fun e he => by cases he) ?_ ?_
      · exact ⟨fun _ => rfl, fun h => absurd h hg0, fun h => absurd h hg0⟩
      · first | (simp [bIf_rec, pIf_rec, bNot_rec, hb, hi, hp, Int.ofNat_eq_natCast, oConds, strip, St.ev]; done) | (simp only [bIf_rec, pIf_rec, bNot_rec, hb, hi, hp, Int.ofNat_eq_natCast]; done) | (simp [bIf_rec, pIf_rec, bNot_rec, hb, hi, hp, Int.ofNat_eq_natCast, oConds, strip, St.ev]; (repeat' apply And.intro) <;> first | exact Int.NonNeg.mk _ | omega)
      · simp

end Go.Den.Z
