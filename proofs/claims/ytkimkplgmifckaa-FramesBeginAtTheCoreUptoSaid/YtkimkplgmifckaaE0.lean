/-
  Part of the proof that FramesBeginAtTheCore returns true: the contracts of In and CodeOf.
  No condition.
-/
import Derived.Test.YtkimkplgmifckaaA3
import Derived.Test.YtkimkplgmifckaaB1
set_option linter.unusedSimpArgs false
set_option linter.unusedVariables false
set_option maxRecDepth 20000
set_option maxHeartbeats 8000000
namespace Go.Den.Z
open Go.Proofs
theorem in_ok (n lo hi' : Int) : PCalls P 14 [iV n, iV lo, iV hi'] [] (bV (decide (lo ≤ n) && decide (n ≤ hi'))) := by
  suffices h : ∃ v : Bool, v = (decide (lo ≤ n) && decide (n ≤ hi')) ∧ PCalls P 14 [iV n, iV lo, iV hi'] [] (bV v) by
    obtain ⟨v, rfl, h⟩ := h
    exact h
  obtain ⟨oi, ob, op, os, on, or_, om, hω⟩ := shields
  have hi : ∀ f, oi f = f () := hω.i
  have hb : ∀ f, ob f = f () := hω.b
  have hp : ∀ f, op f = f () := hω.p
  have hs : ∀ f, os f = f () := hω.s
  have hr : ∀ f, or_ f = f () := hω.r
  refine PCalls.runE hmix hω q_linkhouseref7_In ?_
  unfold c_linkhouseref7_In
  conv => arg 4; cbv
  refine meanE_fin hω (bIf (ob fun _ => decide (lo ≤ n)) (ob fun _ => decide (n ≤ hi')) false) (by (conv => lhs; cbv); all_goals rfl) ⟨rfl, rfl⟩ ?_ (fun e he => by cases he) ?_ ?_
  · rw [bIf_is, hb, hb, condF]
  · simp only [bIf_rec, pIf_rec, bNot_rec, hb, hi, hp, Int.ofNat_eq_natCast]; simp
  · simp

def codeI (l : List Ldd) (a : Int) : Int := match codeAt l a with
  | none => -1
  | some i => i
theorem codeI_some {l : List Ldd} {a : Int} {i : Nat} (h : codeAt l a = some i) : codeI l a = i := by unfold codeI; rw [h]
theorem codeI_none {l : List Ldd} {a : Int} (h : codeAt l a = none) : codeI l a = -1 := by unfold codeI; rw [h]


theorem codeOf_ok (l : List Ldd) (rl rm rc ro : List (List CV)) (hrl : rl = l.map Ldd.e) (hl : l.length ≤ 1048576) (ho : ∀ (k : Nat) d, l[k]? = some d → d.Ok) (hwl : LW Ldd.Wf l) (lz : Bool) (a : Int) (ha : -1 ≤ a ∧ a ≤ 4294967296) : PCalls P 10 [agg [.sl rl, .sl rm, .sl rc, .sl ro, bC lz], iV a] [] (iV (codeI l a)) := by
  suffices h : ∃ v : Int, v = codeI l a ∧ PCalls P 10 [agg [.sl rl, .sl rm, .sl rc, .sl ro, bC lz], iV a] [] (iV (v)) by
    obtain ⟨v, rfl, h⟩ := h
    exact h
  have hll : rl.length = l.length := by rw [hrl]; simp
  obtain ⟨x, hx⟩ := counter 0
  obtain ⟨oi, ob, op, os, on, or_, om, hω⟩ := shields
  have hi : ∀ f, oi f = f () := hω.i
  have hb : ∀ f, ob f = f () := hω.b
  have hp : ∀ f, op f = f () := hω.p
  have hs : ∀ f, os f = f () := hω.s
  have hr : ∀ f, or_ f = f () := hω.r
  refine PCalls.runE hmix hω q_linkhouseref8_CodeOf ?_
  unfold c_linkhouseref8_CodeOf
  conv => arg 4; cbv
  refine meanE_loopF hω [1, 2, 5] l.length (fun i => ∀ q, l[i]? = some q → lddAt q a = false) (fun i => [(5, iV (x i))]) ?_ (fun e he => by cases he) ?_ ?_ fun i hiN hok => ?_
  · (conv => lhs; cbv); (conv => rhs; cbv); simp only [hx 0]; rfl
  · simp [FgtOk, undT, undEs, undEs.undRows, undL, AV.und]
  · trivial
  have hxi : x i = i := by rw [hx]; omega
  conv => arg 4; cbv
  split
  · rename_i h
    simp only [h]
    simp only [bIf_rec, pIf_rec, bNot_rec, hb, hi, hp, Int.ofNat_eq_natCast] at h
    simp at h
    conv => arg 4; cbv
    refine elemM hω hrl ?_ ?_ (fun _ => rfl) ?_ fun q hq => ?_
    · omega
    · omega
    · simp
    have hqx := hq
    have hqo := ho _ _ hq
    have hqw := hwl.2 _ _ hq
    obtain ⟨im, lb, lt, lu⟩ := q
    have hsegs : im.r.segs = im.segs.map Seg.e := rfl
    have hsl := hqw.img.segs.1
    have hso := hqo.img.segs
    have hbi := hqo.bias
    simp only at hbi hsl hso
    have hye : (Ldd.e ⟨im, lb, lt, lu⟩) = im.r.e ++ [iC lb, iC lt, iC lu] := rfl
    simp only [hye]
    generalize im.r = y at hsegs hye ⊢
    obtain ⟨name, shared, segs, entry, exps, imps, fixs, thr, thrSize, inits, finis, needs, id, lines, unw, files, types, vars, places⟩ := y
    simp only at hsegs
    have hsll : segs.length = im.segs.length := by rw [hsegs]; simp
    conv => arg 4; cbv
    refine meanE_loopF hω [1, 2, 5, 6, 7] im.segs.length (fun k => ∀ s, im.segs[k]? = some s → segAt s (a - lb) = false) (fun i => [(7, iV (x i))]) ?_ (fun e he => by cases he) ?_ ?_ fun j hjN hok2 => ?_
    · (conv => lhs; cbv); (conv => rhs; cbv); simp only [hx 0]; rfl
    · simp [FgtOk, undT, undEs, undEs.undRows, undL, AV.und]
    · simp
    have hxj : x j = j := by rw [hx]; omega
    conv => arg 4; cbv
    split
    · rename_i h2
      simp only [h2]
      simp only [bIf_rec, pIf_rec, bNot_rec, hb, hi, hp, Int.ofNat_eq_natCast] at h2
      simp at h2
      conv => arg 4; cbv
      obtain ⟨s, hs0⟩ : ∃ s, im.segs[j]? = some s := ⟨im.segs[j]'(by omega), by simp⟩
      have hsx : im.segs[(x j).toNat]? = some s := by rw [hxj]; exact hs0
      have hs1 := hso _ _ hs0
      have h1 := hs1.a0
      have h3 := hs1.s1
      have h4 := hs1.s2
      have h5 := hs1.a1
      obtain ⟨sa, sz, sr, sd⟩ := s
      simp only at h1 h3 h4 h5
      have hsg : segAt ⟨sa, sz, sr, sd⟩ (a - lb) = (!(bitsOf .and .i64 sr 4 == 0) && (decide (sa + lb ≤ a) && decide (a ≤ sa + lb + sz - 1))) := by
        unfold segAt execS
        rw [Bool.and_assoc, show (decide (sa ≤ a - lb) = decide (sa + lb ≤ a)) from by congr 1; simp; omega, show (decide (a - lb - sa < sz) = decide (a ≤ sa + lb + sz - 1)) from by congr 1; simp; omega]
      obtain ⟨rd, hrd⟩ : ∃ rd, rd = sd.map eY := ⟨_, rfl⟩
      obtain ⟨slo, hslo⟩ : ∃ slo : Int, slo = sa + lb := ⟨_, rfl⟩
      obtain ⟨shi, hshi⟩ : ∃ shi : Int, shi = slo + sz - 1 := ⟨_, rfl⟩
      have e1 : (oi fun _ => IntKind.i64.wrap (sa + lb)) = slo := by rw [hi, hslo, wrap_i64 (by omega)]
      have e2 : (oi fun _ => IntKind.i64.wrap ((oi fun _ => IntKind.i64.wrap (slo + sz)) - 1)) = shi := by rw [hi, hi, hshi, wrap_i64 (n := slo + sz) (by omega), wrap_i64 (by omega)]
      have hin := in_ok a slo shi
      rw [← hslo, ← hshi] at hsg
      generalize (decide (slo ≤ a) && decide (a ≤ shi)) = bb at hin hsg
      refine elemM hω hsegs ?_ ?_ (fun _ => rfl) ?_ fun q2 hq2 => ?_
      · omega
      · omega
      · simp
      obtain rfl := Option.some.inj (hsx.symm.trans hq2)
      simp only [Seg.e]
      rw [← hrd]
      conv => arg 4; cbv
      refine elemM hω hrl ?_ ?_ (fun _ => rfl) ?_ fun q3 hq3 => ?_
      · omega
      · omega
      · simp
      obtain rfl := Option.some.inj (hqx.symm.trans hq3)
      simp only [hye]
      conv => arg 4; cbv
      simp only [e1]
      refine elemM hω hsegs ?_ ?_ (fun _ => rfl) ?_ fun q2 hq2 => ?_
      · omega
      · omega
      · simp
      obtain rfl := Option.some.inj (hsx.symm.trans hq2)
      simp only [Seg.e]
      rw [← hrd]
      conv => arg 4; cbv
      split
      · rename_i h6
        simp only [h6]
        simp only [bIf_rec, pIf_rec, bNot_rec, hb, hi, hp, Int.ofNat_eq_natCast] at h6
        conv => arg 4; cbv
        refine elemM hω hsegs ?_ ?_ (fun _ => rfl) ?_ fun q2 hq2 => ?_
        · omega
        · omega
        · simp
        obtain rfl := Option.some.inj (hsx.symm.trans hq2)
        simp only [Seg.e]
        rw [← hrd]
        conv => arg 4; cbv
        simp only [e2]
        refine meanE_callG hω (hin.any (by simp [undL, AV.und, iV]) (by simp [AV.und, bV]) _) ?_ ?_
        · simp [oConds, strip, St.ev]
        cases bb
        · have hsf : segAt ⟨sa, sz, sr, sd⟩ (a - lb) = false := by rw [hsg]; simp
          conv => arg 4; cbv
          refine forF_next hok2 ?_ ?_ ?_ (fun e he => by cases he) ?_ ?_
          · (conv => lhs; cbv); (conv => rhs; cbv); simp only [show (oi fun _ => IntKind.wrap .i64 (x j + 1)) = x (j + 1) from by rw [hi, hx, hx, wrap_i64 (by omega)]; push_cast; omega]
          · omega
          · intro s2 hs2
            obtain rfl := Option.some.inj (hs0.symm.trans hs2)
            exact hsf
          · simp [FgtOk, undT, undEs, undEs.undRows, undL, AV.und]
          · simp [bIf_rec, pIf_rec, bNot_rec, hb, hi, hp, Int.ofNat_eq_natCast]
        · have hst : segAt ⟨sa, sz, sr, sd⟩ (a - lb) = true := by
            rw [hsg]
            simpa [bne] using h6
          have hqi : l[i]? = some _ := (show l[i]? = l[(x i).toNat]? by rw [hxi]; rfl).trans hqx
          have hca := codeAt_some hqi (lddAt_true hs0 hst) fun j' q' hj' hq' => hok j' (by omega) q' hq'
          conv => arg 4; cbv
          refine roundG_out hω ?_ (fun h => by cases h) ?_
          · conv => arg 4; cbv
            refine roundG_out hω ?_ (fun h => by cases h) ?_
            · conv => arg 4; cbv
              refine meanE_fin hω (x i) (by (conv => lhs; cbv); all_goals rfl) ⟨rfl, rfl⟩ ?_ (fun e he => by cases he) ?_ ?_
              · rw [codeI_some hca, hxi]
              · trivial
              · simp
            · trivial
          · simp [bIf_rec, pIf_rec, bNot_rec, hb, hi, hp, Int.ofNat_eq_natCast]
      · rename_i h6
        simp only [h6]
        simp only [bIf_rec, pIf_rec, bNot_rec, hb, hi, hp, Int.ofNat_eq_natCast] at h6
        have hsf : segAt ⟨sa, sz, sr, sd⟩ (a - lb) = false := by
          rw [hsg]
          have h7 : bitsOf .and .i64 sr 4 = 0 := by simpa [bne] using h6
          rw [h7]
          rfl
        conv => arg 4; cbv
        refine forF_next hok2 ?_ ?_ ?_ (fun e he => by cases he) ?_ ?_
        · (conv => lhs; cbv); (conv => rhs; cbv); simp only [show (oi fun _ => IntKind.wrap .i64 (x j + 1)) = x (j + 1) from by rw [hi, hx, hx, wrap_i64 (by omega)]; push_cast; omega]
        · omega
        · intro s2 hs2
          obtain rfl := Option.some.inj (hs0.symm.trans hs2)
          exact hsf
        · simp [FgtOk, undT, undEs, undEs.undRows, undL, AV.und]
        · simp only [bIf_rec, pIf_rec, bNot_rec, hb, hi, hp, Int.ofNat_eq_natCast] at h6 ⊢; first | done | (simp at h6; simp [h6])
    · rename_i h2
      simp only [h2]
      simp only [bIf_rec, pIf_rec, bNot_rec, hb, hi, hp, Int.ofNat_eq_natCast] at h2
      simp at h2
      conv => arg 4; cbv
      refine roundG_out hω ?_ (fun h => by cases h) ?_
      · conv => arg 4; cbv
        refine forF_next hok ?_ ?_ ?_ (fun e he => by cases he) ?_ ?_
        · (conv => lhs; cbv); (conv => rhs; cbv); simp only [show (oi fun _ => IntKind.wrap .i64 (x i + 1)) = x (i + 1) from by rw [hi, hx, hx, wrap_i64 (by omega)]; push_cast; omega]
        · omega
        · intro q2 hq2
          obtain rfl := Option.some.inj (hqx.symm.trans (by rw [hxi]; exact hq2))
          exact lddAt_false fun k s hs => hok2 k (by have h9 := (List.getElem?_eq_some_iff.1 hs).1; simp only at h9; omega) s hs
        · simp [FgtOk, undT, undEs, undEs.undRows, undL, AV.und]
        · trivial
      · trivial
  · rename_i h
    simp only [h]
    simp only [bIf_rec, pIf_rec, bNot_rec, hb, hi, hp, Int.ofNat_eq_natCast] at h
    simp at h
    conv => arg 4; cbv
    refine roundG_out hω ?_ (fun h => by cases h) ?_
    · conv => arg 4; cbv
      refine meanE_fin hω (-1) (by (conv => lhs; cbv); all_goals rfl) ⟨rfl, rfl⟩ ?_ (fun e he => by cases he) ?_ ?_
      · rw [codeI_none (codeAt_none fun j q hq => hok j (by have := (List.getElem?_eq_some_iff.1 hq).1; omega) q hq)]
      · trivial
      · simp
    · trivial

end Go.Den.Z
