/-
  Part of the proof that FramesMatchSpec returns true: the law, whatever the process: it returns true.
  No condition.
-/
import Derived.Test.YtkimkplgmifckaaGreatE6
import Derived.Test.YtkimkplgmifckaaGreatF0
import Derived.Test.YtkimkplgmifckaaGreatF1
set_option linter.unusedSimpArgs false
set_option linter.unusedVariables false
set_option maxRecDepth 20000
set_option maxHeartbeats 8000000
namespace Go.Den.Z
open Go.Proofs
theorem walkOf_len (p : Prc) (c : Cor) : (walkOf p c).length ≤ 1048576 := by
  have h : ∀ n w, (walkF p c.buf n w).length ≤ n := by
    intro n
    induction n with
    | zero => intro w; exact Nat.le_refl _
    | succ n ih =>
      intro w
      simp only [walkF]
      cases codeAt p.loaded w.pc with
      | none => exact Nat.zero_le _
      | some i =>
        cases upOf p c.buf w with
        | none => simp
        | some x => simp only [List.length_cons]; have := ih x.2; omega
  exact Nat.le_trans (h 40 _) (by omega)
theorem law_ok (p : Prc) (hpw : p.Wf) (k : Int) : PCalls P 3 [agg p.e, iV k] [] (bV true) := by
  obtain ⟨rl, hrl⟩ : ∃ r, r = p.loaded.map Ldd.e := ⟨_, rfl⟩
  obtain ⟨rm, hrm⟩ : ∃ r, r = p.mem.map Pag.e := ⟨_, rfl⟩
  obtain ⟨rc, hrc⟩ : ∃ r, r = p.cores.map Cor.e := ⟨_, rfl⟩
  obtain ⟨ro, hro⟩ : ∃ r, r = p.out.map eI := ⟨_, rfl⟩
  have hpe : p.e = [.sl rl, .sl rm, .sl rc, .sl ro, bC p.lzy] := by rw [hrl, hrm, hrc, hro]; rfl
  rw [hpe]
  obtain ⟨g, hg, hval⟩ := loadValidate_ok p hpw rl rm rc ro hrl hrm hrc hro p.lzy
  obtain ⟨w, hw, hwalk⟩ := walk_ok p hpw rl rm rc ro hrl hrm hrc p.lzy k g hg hval
  obtain ⟨e, he, hcf⟩ := coreFault_ok p hpw rl rm rc ro hrc p.lzy k g (fun h => (hg h).1) hval
  have hwk := walked_ok
  generalize p.lzy = lz at *
  clear hpe hval
  have hcase : (e.1 ≠ 0 ∧ w = ([], e.1, e.2)) ∨ (e = (0, 0) ∧ ∃ rows, w = (rows, 0, 0) ∧ PCalls P 12 [agg [.sl rl, .sl rm, .sl rc, .sl ro, bC lz], iV k] [] (.c (.sl rows)) ∧ PCalls P 11 [.c (.sl rows), .c (.sl rows)] [] (bV true)) := by
    by_cases hg0 : g.1 = 0
    · by_cases hk : k < 0 ∨ p.cores.length ≤ k
      · have h1 := hw.2.1 hg0 hk
        have h2 := he.2.1 hg0 hk
        rw [h1, h2]
        exact .inl ⟨by decide, rfl⟩
      · have hk0 : 0 ≤ k := by omega
        have hkc : p.cores[k.toNat]? = some (p.cores[k.toNat]'(by omega)) := by simp
        have h1 := hw.2.2 hg0 hk0 _ hkc
        have h2 := he.2.2 hg0 hk0 (by omega)
        refine .inr ⟨h2, _, h1, refWalk_ok p hpw (hg hg0).2 rl rm rc ro hrl hrm hrc lz k _ hk0 hkc, sameFrames_ok _ _ rfl (walkOf_len p _)⟩
    · have h1 := hw.1 hg0
      have h2 := he.1 hg0
      rw [h1, h2]
      exact .inl ⟨hg0, rfl⟩
  suffices h : ∃ v : Bool, v = true ∧ PCalls P 3 [agg [.sl rl, .sl rm, .sl rc, .sl ro, bC lz], iV k] [] (bV v) by
    obtain ⟨v, rfl, h⟩ := h
    exact h
  obtain ⟨e1, e2⟩ := e
  obtain ⟨oi, ob, op, os, on, or_, om, hω⟩ := shields
  have hi : ∀ f, oi f = f () := hω.i
  have hb : ∀ f, ob f = f () := hω.b
  have hp : ∀ f, op f = f () := hω.p
  have hs : ∀ f, os f = f () := hω.s
  have hr : ∀ f, or_ f = f () := hω.r
  refine PCalls.runE hmix hω q_linkhouselaw8_FramesMatchSpec ?_
  unfold c_linkhouselaw8_FramesMatchSpec
  rcases hcase with ⟨hne, rfl⟩ | ⟨he0, rows, rfl, hrf, hsf⟩
  · simp only at hwalk hcf hne
    conv => arg 4; cbv
    refine meanE_call hω (hwalk.any (by simp [undL, AV.und, agg, iV]) (by simp [AV.und, fltV, agg, undL]) _) ?_ ?_
    · first | (simp [bIf_rec, pIf_rec, bNot_rec, hb, hi, hp, Int.ofNat_eq_natCast, oConds, strip, St.ev]; done) | (simp only [bIf_rec, pIf_rec, bNot_rec, hb, hi, hp, Int.ofNat_eq_natCast]; done) | (simp [bIf_rec, pIf_rec, bNot_rec, hb, hi, hp, Int.ofNat_eq_natCast, oConds, strip, St.ev]; (repeat' apply And.intro) <;> first | exact Int.NonNeg.mk _ | omega)
    conv => arg 4; cbv
    refine meanE_call hω (hcf.any (by simp [undL, AV.und, agg, iV]) (by simp [AV.und, fltV, agg, undL]) _) ?_ ?_
    · first | (simp [bIf_rec, pIf_rec, bNot_rec, hb, hi, hp, Int.ofNat_eq_natCast, oConds, strip, St.ev]; done) | (simp only [bIf_rec, pIf_rec, bNot_rec, hb, hi, hp, Int.ofNat_eq_natCast]; done) | (simp [bIf_rec, pIf_rec, bNot_rec, hb, hi, hp, Int.ofNat_eq_natCast, oConds, strip, St.ev]; (repeat' apply And.intro) <;> first | exact Int.NonNeg.mk _ | omega)
    conv => arg 4; cbv
    split
    · rename_i h
      simp only [h]
      conv => arg 4; cbv
      repeat' first
        | (refine meanE_id ?_; conv => arg 4; cbv)
        | (refine meanE_callG hω (hwk.any (by simp [undL, AV.und, agg, iV]) (by simp [AV.und, bV]) _) ?_ ?_)
        | (refine meanE_fin hω _ (by (conv => lhs; cbv); all_goals rfl) ⟨rfl, rfl⟩ ?_ (fun e he => by cases he) ?_ ?_)
        | (split <;> (rename_i h3; (try simp only [h3]); (try simp only [bIf_rec, pIf_rec, bNot_rec, hb, hi, hp, Int.ofNat_eq_natCast, condF] at h3); (try simp at h3); (try (conv => arg 4; cbv))))
      all_goals first
        | trivial
        | (simp [bIf_rec, pIf_rec, bNot_rec, hb, hi, hp, Int.ofNat_eq_natCast, condF]; done)
        | (simp [bIf_rec, pIf_rec, bNot_rec, hb, hi, hp, Int.ofNat_eq_natCast, oConds, strip, St.ev]; done)
        | (simp_all; done)
       
    · rename_i h
      exfalso
      simp only [bIf_rec, pIf_rec, bNot_rec, hb, hi, hp, Int.ofNat_eq_natCast] at h
      simp at h
      exact hne h
  · simp only [Prod.mk.injEq] at he0
    obtain ⟨rfl, rfl⟩ := he0
    simp only at hwalk hcf
    conv => arg 4; cbv
    refine meanE_call hω (hwalk.any (by simp [undL, AV.und, agg, iV]) (by simp [AV.und, fltV, agg, undL]) _) ?_ ?_
    · first | (simp [bIf_rec, pIf_rec, bNot_rec, hb, hi, hp, Int.ofNat_eq_natCast, oConds, strip, St.ev]; done) | (simp only [bIf_rec, pIf_rec, bNot_rec, hb, hi, hp, Int.ofNat_eq_natCast]; done) | (simp [bIf_rec, pIf_rec, bNot_rec, hb, hi, hp, Int.ofNat_eq_natCast, oConds, strip, St.ev]; (repeat' apply And.intro) <;> first | exact Int.NonNeg.mk _ | omega)
    conv => arg 4; cbv
    refine meanE_call hω (hcf.any (by simp [undL, AV.und, agg, iV]) (by simp [AV.und, fltV, agg, undL]) _) ?_ ?_
    · first | (simp [bIf_rec, pIf_rec, bNot_rec, hb, hi, hp, Int.ofNat_eq_natCast, oConds, strip, St.ev]; done) | (simp only [bIf_rec, pIf_rec, bNot_rec, hb, hi, hp, Int.ofNat_eq_natCast]; done) | (simp [bIf_rec, pIf_rec, bNot_rec, hb, hi, hp, Int.ofNat_eq_natCast, oConds, strip, St.ev]; (repeat' apply And.intro) <;> first | exact Int.NonNeg.mk _ | omega)
    conv => arg 4; cbv
    split
    · rename_i h
      exfalso
      simp only [bIf_rec, pIf_rec, bNot_rec, hb, hi, hp, Int.ofNat_eq_natCast] at h
      simp at h
    · rename_i h
      simp only [h]
      conv => arg 4; cbv
      repeat' first
        | (refine meanE_id ?_; conv => arg 4; cbv)
        | (refine meanE_callG hω (hrf.any (by simp [undL, AV.und, agg, iV]) (by simp [AV.und, bV]) _) ?_ ?_)
        | (refine meanE_callG hω (hsf.any (by simp [undL, AV.und, agg, iV]) (by simp [AV.und, bV]) _) ?_ ?_)
        | (refine meanE_callG hω (hwk.any (by simp [undL, AV.und, agg, iV]) (by simp [AV.und, bV]) _) ?_ ?_)
        | (refine meanE_fin hω _ (by (conv => lhs; cbv); all_goals rfl) ⟨rfl, rfl⟩ ?_ (fun e he => by cases he) ?_ ?_)
        | (split <;> (rename_i h3; (try simp only [h3]); (try simp only [bIf_rec, pIf_rec, bNot_rec, hb, hi, hp, Int.ofNat_eq_natCast, condF] at h3); (try simp at h3); (try (conv => arg 4; cbv))))
      all_goals first
        | trivial
        | (simp [bIf_rec, pIf_rec, bNot_rec, hb, hi, hp, Int.ofNat_eq_natCast, condF]; done)
        | (simp [bIf_rec, pIf_rec, bNot_rec, hb, hi, hp, Int.ofNat_eq_natCast, oConds, strip, St.ev]; done)
        | (simp_all; done)
       

end Go.Den.Z
