/-
  Part of the proof that FramesMatchSpec returns true: the contracts of the functions of the reference.
  No condition.
-/
import Derived.Test.YtkimkplgmifckaaGreatA3
import Derived.Test.YtkimkplgmifckaaGreatB1
import Derived.Test.YtkimkplgmifckaaGreatD0
set_option linter.unusedSimpArgs false
set_option linter.unusedVariables false
set_option maxRecDepth 20000
set_option maxHeartbeats 8000000
namespace Go.Den.Z
open Go.Proofs
theorem in_ok (n lo hi' : Int) : PCalls P 19 [iV n, iV lo, iV hi'] [] (bV (decide (lo ≤ n) && decide (n ≤ hi'))) := by
  suffices h : ∃ v : Bool, v = (decide (lo ≤ n) && decide (n ≤ hi')) ∧ PCalls P 19 [iV n, iV lo, iV hi'] [] (bV v) by
    obtain ⟨v, rfl, h⟩ := h
    exact h
  obtain ⟨oi, ob, op, os, on, or_, om, hω⟩ := shields
  have hi : ∀ f, oi f = f () := hω.i
  have hb : ∀ f, ob f = f () := hω.b
  have hp : ∀ f, op f = f () := hω.p
  have hs : ∀ f, os f = f () := hω.s
  have hr : ∀ f, or_ f = f () := hω.r
  refine PCalls.runE hmix hω q_linkhouseref7_In ?_
  unfold c_linkhouseref7_In
  conv => arg 4; cbv
  refine meanE_fin hω (bIf (ob fun _ => decide (lo ≤ n)) (ob fun _ => decide (n ≤ hi')) false) (by (conv => lhs; cbv); all_goals rfl) ⟨rfl, rfl⟩ ?_ (fun e he => by cases he) ?_ ?_
  · rw [bIf_is, hb, hb, condF]
  · simp only [bIf_rec, pIf_rec, bNot_rec, hb, hi, hp, Int.ofNat_eq_natCast]; simp
  · simp

theorem at_ok (a b : Int) : PCalls P 20 [iV a, iV b] [] (fltV (a, b).1 (a, b).2) := by
  suffices h : ∃ v : Int × Int, v = (a, b) ∧ PCalls P 20 [iV a, iV b] [] (fltV v.1 v.2) by
    obtain ⟨v, rfl, h⟩ := h
    exact h
  obtain ⟨oi, ob, op, os, on, or_, om, hω⟩ := shields
  have hi : ∀ f, oi f = f () := hω.i
  have hb : ∀ f, ob f = f () := hω.b
  have hp : ∀ f, op f = f () := hω.p
  have hs : ∀ f, os f = f () := hω.s
  have hr : ∀ f, or_ f = f () := hω.r
  refine PCalls.runE hmix hω q_linkhouseref7_At ?_
  unfold c_linkhouseref7_At
  conv => arg 4; cbv
  refine meanE_fin hω (a, b) (by (conv => lhs; cbv); all_goals rfl) ⟨rfl, rfl⟩ rfl (fun e he => by cases he) ?_ ?_
  · simp
  · simp

theorem pageAt_first {m : List Pag} {a : Int} {i : Nat} {q : Pag} (hq : m[i]? = some q) (h : q.addr ≤ a ∧ a ≤ q.addr + 255) (hn : ∀ (j : Nat) p, j < i → m[j]? = some p → ¬ (p.addr ≤ a ∧ a ≤ p.addr + 255)) : pageAt m a = some q := by
  have hlt := (List.getElem?_eq_some_iff.1 hq).1
  unfold pageAt
  rw [List.find?_eq_some_iff_getElem]
  refine ⟨by simpa using h, i, hlt, (List.getElem?_eq_some_iff.1 hq).2, fun j hj => ?_⟩
  have := hn j m[j] hj (by simp)
  simp only [Bool.not_eq_true', Bool.and_eq_false_iff, decide_eq_false_iff_not]
  omega
theorem pageAt_none' {m : List Pag} {a : Int} (hn : ∀ (j : Nat) p, m[j]? = some p → ¬ (p.addr ≤ a ∧ a ≤ p.addr + 255)) : pageAt m a = none := by
  unfold pageAt
  rw [List.find?_eq_none]
  intro p hp
  obtain ⟨j, hj⟩ := List.mem_iff_getElem?.1 hp
  have := hn j p hj
  simp
  omega

theorem rbyte_ok (m : List Pag) (rows : List (List CV)) (hrows : rows = m.map Pag.e) (hm : MemOk m) (a : Int) (ha : 0 ≤ a ∧ a ≤ 4294967300) : PCalls P 27 [.c (.sl rows), iV a] [] (.tu [yV (byteAt m a, rightsAt m a).1, iV (byteAt m a, rightsAt m a).2]) := by
  suffices h : ∃ v : Int × Int, v = (byteAt m a, rightsAt m a) ∧ PCalls P 27 [.c (.sl rows), iV a] [] (.tu [yV v.1, iV v.2]) by
    obtain ⟨v, rfl, h⟩ := h
    exact h
  have hll : rows.length = m.length := by rw [hrows]; simp
  have hml := hm.len
  have hsome : ∀ q, pageAt m a = some q → (byteAt m a, rightsAt m a) = (q.data.getD (a - q.addr).toNat 0, q.rights) := fun q h => by simp only [byteAt, rightsAt, h]
  have hnone : pageAt m a = none → (byteAt m a, rightsAt m a) = (0, 0) := fun h => by simp only [byteAt, rightsAt, h]
  generalize (byteAt m a, rightsAt m a) = res at hsome hnone ⊢
  obtain ⟨x, hx⟩ := counter 0
  obtain ⟨oi, ob, op, os, on, or_, om, hω⟩ := shields
  have hi : ∀ f, oi f = f () := hω.i
  have hb : ∀ f, ob f = f () := hω.b
  have hp : ∀ f, op f = f () := hω.p
  have hs : ∀ f, os f = f () := hω.s
  have hr : ∀ f, or_ f = f () := hω.r
  refine PCalls.runE hmix hω q_linkhouseref8_Byte ?_
  unfold c_linkhouseref8_Byte
  conv => arg 4; cbv
  refine meanE_loopF hω [0, 1, 6] m.length (fun i => ∀ p, m[i]? = some p → ¬ (p.addr ≤ a ∧ a ≤ p.addr + 255)) (fun i => [(6, iV (x i))]) ?_ (fun e he => by cases he) ?_ ?_ fun i hiN hok => ?_
  · (conv => lhs; cbv); (conv => rhs; cbv); simp only [hx 0]; rfl
  · simp [FgtOk, undT, undEs, undEs.undRows, undL, AV.und]
  · trivial
  have hxi : x i = i := by rw [hx]; omega
  conv => arg 4; cbv
  split
  · rename_i h
    simp only [h]
    simp only [bIf_rec, pIf_rec, bNot_rec, hb, hi, hp, Int.ofNat_eq_natCast] at h
    simp at h
    conv => arg 4; cbv
    have hlt : i < m.length := by omega
    obtain ⟨q, hq⟩ : ∃ q, m[i]? = some q := ⟨m[i], by simp [hlt]⟩
    have hqx : m[(x i).toNat]? = some q := by rw [hxi]; exact hq
    have hqo := hm.pg i q hq
    have hqa := hqo.a
    have hqd := hqo.d
    have hs1 := hsome q
    have hpf := pageAt_first (a := a) hq
    obtain ⟨pa, pr, pd⟩ := q
    simp only at hqa hqd hs1 hpf
    obtain ⟨rd, hrd⟩ : ∃ rd, rd = pd.map eY := ⟨_, rfl⟩
    have hrdl : rd.length = 256 := by rw [hrd]; simp [hqd]
    have hwp := wrap_i64 (n := pa + 255) (by omega)
    have hin := in_ok a pa (pa + 255)
    have hwd : ∀ (h1 : pa ≤ a ∧ a ≤ pa + 255), (oi fun _ => IntKind.i64.wrap (a - pa)) = a - pa := fun h1 => by rw [hi, wrap_i64 (by omega)]
    obtain ⟨pz, hpz⟩ : ∃ pz : Int, pz = pa + 255 := ⟨_, rfl⟩
    rw [← hpz] at hin hwp
    have ez : (oi fun _ => IntKind.i64.wrap (pa + 255)) = pz := by rw [hi, ← hpz, hwp]
    obtain ⟨bb, hbb⟩ : ∃ bb : Bool, bb = (decide (pa ≤ a) && decide (a ≤ pz)) := ⟨_, rfl⟩
    rw [← hbb] at hin
    repeat' first
      | (refine meanE_id ?_; conv => arg 4; cbv)
      | (refine elemM hω hrows ?_ ?_ (fun _ => rfl) ?_ fun q2 hq2 => ?_; rotate_left 3; obtain rfl := Option.some.inj (hqx.symm.trans hq2); simp only [Pag.e]; rw [← hrd])
      | (refine elemM hω hrd ?_ ?_ (fun _ => rfl) ?_ fun y hy => ?_)
      | (refine meanE_callQ hω (x := bV bb) ?_ ?_ ?_)
      | (cases bb <;> (conv => arg 4; cbv))
      | (refine forF_next hok ?_ ?_ ?_ (fun e he => by cases he) ?_ ?_)
      | (refine roundG_out hω ?_ (fun h => by cases h) ?_)
      | (refine meanE_fin hω (y, pr) (by (conv => lhs; cbv); all_goals rfl) ⟨rfl, rfl⟩ ?_ (fun e he => by cases he) ?_ ?_)
    all_goals first
      | trivial
      | omega
      | (simp [FgtOk, undT, undEs, undEs.undRows, undL, AV.und]; done)
      | ((conv => lhs; cbv); (conv => rhs; cbv); simp only [show (oi fun _ => IntKind.wrap .i64 (x i + 1)) = x (i + 1) from by rw [hi, hx, hx, wrap_i64 (by omega)]; push_cast; omega])
      | (rw [ez]; simpa [iV, iC, bV, bC] using hin)
      | (simp at hbb; rw [hwd (by omega)]; omega)
      | (simp only [bIf_rec, pIf_rec, bNot_rec, hb, hi, hp, Int.ofNat_eq_natCast]; simp; done)
      | (intro p2 hp2; obtain rfl := Option.some.inj (hq.symm.trans hp2); simp at hbb; simp only; omega)
      | (show (y, pr) = res; simp at hbb; have hin2 : pa ≤ a ∧ a ≤ pa + 255 := (by omega); rw [hwd hin2] at hy; rw [hs1 (hpf hin2 fun j p hj hp => hok j hj p hp), List.getD_eq_getElem?_getD, hy]; rfl)
     
  · rename_i h
    simp only [h]
    simp only [bIf_rec, pIf_rec, bNot_rec, hb, hi, hp, Int.ofNat_eq_natCast] at h
    simp at h
    conv => arg 4; cbv
    refine roundG_out hω ?_ (fun h => by cases h) ?_
    · conv => arg 4; cbv
      refine meanE_fin hω (0, 0) (by (conv => lhs; cbv); all_goals rfl) ⟨rfl, rfl⟩ ?_ (fun e he => by cases he) ?_ ?_
      · exact (hnone (pageAt_none' fun j p hp => hok j (by have := (List.getElem?_eq_some_iff.1 hp).1; omega) p hp)).symm
      · simp
      · simp
    · trivial

theorem rcan_ok (m : List Pag) (rows : List (List CV)) (hrows : rows = m.map Pag.e) (hm : MemOk m) (a : Int) (ha : 0 ≤ a ∧ a ≤ 4294967300) : PCalls P 28 [.c (.sl rows), iV a, iV 1] [] (bV (canAt m a 1)) := by
  suffices h : ∃ v : Bool, v = canAt m a 1 ∧ PCalls P 28 [.c (.sl rows), iV a, iV 1] [] (bV (v)) by
    obtain ⟨v, rfl, h⟩ := h
    exact h
  have hby := rbyte_ok m rows hrows hm a ha
  have hres : canAt m a 1 = (bitsOf .and .i64 (rightsAt m a) 1 == 1) := rfl
  rw [hres]
  simp only at hby
  generalize rightsAt m a = rt at hby ⊢
  generalize byteAt m a = bt at hby ⊢
  obtain ⟨oi, ob, op, os, on, or_, om, hω⟩ := shields
  have hi : ∀ f, oi f = f () := hω.i
  have hb : ∀ f, ob f = f () := hω.b
  have hp : ∀ f, op f = f () := hω.p
  have hs : ∀ f, os f = f () := hω.s
  have hr : ∀ f, or_ f = f () := hω.r
  refine PCalls.runE hmix hω q_linkhouseref8_Can ?_
  unfold c_linkhouseref8_Can
  conv => arg 4; cbv
  refine meanE_call hω (hby.any (by simp [undL, AV.und, iV]) (by simp [AV.und, yV, iV, undL]) _) ?_ ?_
  · simp [oConds]
  conv => arg 4; cbv
  refine meanE_fin hω (ob fun _ => (oi fun _ => bitsOf .and .i64 rt 1) == 1) (by (conv => lhs; cbv); all_goals rfl) ⟨rfl, rfl⟩ ?_ (fun e he => by cases he) ?_ ?_
  · rw [hb, hi]
  · simp
  · simp

def codeI (l : List Ldd) (a : Int) : Int := match codeAt l a with
  | none => -1
  | some i => i
theorem codeI_some {l : List Ldd} {a : Int} {i : Nat} (h : codeAt l a = some i) : codeI l a = i := by unfold codeI; rw [h]
theorem codeI_none {l : List Ldd} {a : Int} (h : codeAt l a = none) : codeI l a = -1 := by unfold codeI; rw [h]

theorem codeOf_ok (l : List Ldd) (rl rm rc ro : List (List CV)) (hrl : rl = l.map Ldd.e) (hl : l.length ≤ 1048576) (ho : ∀ (k : Nat) d, l[k]? = some d → d.Ok) (hwl : LW Ldd.Wf l) (lz : Bool) (a : Int) (ha : -1 ≤ a ∧ a ≤ 4294967296) : PCalls P 34 [agg [.sl rl, .sl rm, .sl rc, .sl ro, bC lz], iV a] [] (iV (codeI l a)) := by
  suffices h : ∃ v : Int, v = codeI l a ∧ PCalls P 34 [agg [.sl rl, .sl rm, .sl rc, .sl ro, bC lz], iV a] [] (iV (v)) by
    obtain ⟨v, rfl, h⟩ := h
    exact h
  have hll : rl.length = l.length := by rw [hrl]; simp
  obtain ⟨x, hx⟩ := counter 0
  obtain ⟨oi, ob, op, os, on, or_, om, hω⟩ := shields
  have hi : ∀ f, oi f = f () := hω.i
  have hb : ∀ f, ob f = f () := hω.b
  have hp : ∀ f, op f = f () := hω.p
  have hs : ∀ f, os f = f () := hω.s
  have hr : ∀ f, or_ f = f () := hω.r
  refine PCalls.runE hmix hω q_linkhouseref8_CodeOf ?_
  unfold c_linkhouseref8_CodeOf
  conv => arg 4; cbv
  refine meanE_loopF hω [1, 2, 5] l.length (fun i => ∀ q, l[i]? = some q → lddAt q a = false) (fun i => [(5, iV (x i))]) ?_ (fun e he => by cases he) ?_ ?_ fun i hiN hok => ?_
  · (conv => lhs; cbv); (conv => rhs; cbv); simp only [hx 0]; rfl
  · simp [FgtOk, undT, undEs, undEs.undRows, undL, AV.und]
  · trivial
  have hxi : x i = i := by rw [hx]; omega
  conv => arg 4; cbv
  split
  · rename_i h
    simp only [h]
    simp only [bIf_rec, pIf_rec, bNot_rec, hb, hi, hp, Int.ofNat_eq_natCast] at h
    simp at h
    conv => arg 4; cbv
    refine elemM hω hrl ?_ ?_ (fun _ => rfl) ?_ fun q hq => ?_
    · omega
    · omega
    · simp
    have hqx := hq
    have hqo := ho _ _ hq
    have hqw := hwl.2 _ _ hq
    obtain ⟨im, lb, lt, lu⟩ := q
    have hsegs : im.r.segs = im.segs.map Seg.e := rfl
    have hsl := hqw.img.segs.1
    have hso := hqo.img.segs
    have hbi := hqo.bias
    simp only at hbi hsl hso
    have hye : (Ldd.e ⟨im, lb, lt, lu⟩) = im.r.e ++ [iC lb, iC lt, iC lu] := rfl
    simp only [hye]
    generalize im.r = y at hsegs hye ⊢
    obtain ⟨name, shared, segs, entry, exps, imps, fixs, thr, thrSize, inits, finis, needs, id, lines, unw, files, types, vars, places⟩ := y
    simp only at hsegs
    have hsll : segs.length = im.segs.length := by rw [hsegs]; simp
    conv => arg 4; cbv
    refine meanE_loopF hω [1, 2, 5, 6, 7] im.segs.length (fun k => ∀ s, im.segs[k]? = some s → segAt s (a - lb) = false) (fun i => [(7, iV (x i))]) ?_ (fun e he => by cases he) ?_ ?_ fun j hjN hok2 => ?_
    · (conv => lhs; cbv); (conv => rhs; cbv); simp only [hx 0]; rfl
    · simp [FgtOk, undT, undEs, undEs.undRows, undL, AV.und]
    · simp
    have hxj : x j = j := by rw [hx]; omega
    conv => arg 4; cbv
    split
    · rename_i h2
      simp only [h2]
      simp only [bIf_rec, pIf_rec, bNot_rec, hb, hi, hp, Int.ofNat_eq_natCast] at h2
      simp at h2
      conv => arg 4; cbv
      obtain ⟨s, hs0⟩ : ∃ s, im.segs[j]? = some s := ⟨im.segs[j]'(by omega), by simp⟩
      have hsx : im.segs[(x j).toNat]? = some s := by rw [hxj]; exact hs0
      have hs1 := hso _ _ hs0
      have h1 := hs1.a0
      have h3 := hs1.s1
      have h4 := hs1.s2
      have h5 := hs1.a1
      obtain ⟨sa, sz, sr, sd⟩ := s
      simp only at h1 h3 h4 h5
      have hsg : segAt ⟨sa, sz, sr, sd⟩ (a - lb) = (!(bitsOf .and .i64 sr 4 == 0) && (decide (sa + lb ≤ a) && decide (a ≤ sa + lb + sz - 1))) := by
        unfold segAt execS
        rw [Bool.and_assoc, show (decide (sa ≤ a - lb) = decide (sa + lb ≤ a)) from by congr 1; simp; omega, show (decide (a - lb - sa < sz) = decide (a ≤ sa + lb + sz - 1)) from by congr 1; simp; omega]
      obtain ⟨rd, hrd⟩ : ∃ rd, rd = sd.map eY := ⟨_, rfl⟩
      obtain ⟨slo, hslo⟩ : ∃ slo : Int, slo = sa + lb := ⟨_, rfl⟩
      obtain ⟨shi, hshi⟩ : ∃ shi : Int, shi = slo + sz - 1 := ⟨_, rfl⟩
      have e1 : (oi fun _ => IntKind.i64.wrap (sa + lb)) = slo := by rw [hi, hslo, wrap_i64 (by omega)]
      have e2 : (oi fun _ => IntKind.i64.wrap ((oi fun _ => IntKind.i64.wrap (slo + sz)) - 1)) = shi := by rw [hi, hi, hshi, wrap_i64 (n := slo + sz) (by omega), wrap_i64 (by omega)]
      have hin := in_ok a slo shi
      rw [← hslo, ← hshi] at hsg
      generalize (decide (slo ≤ a) && decide (a ≤ shi)) = bb at hin hsg
      refine elemM hω hsegs ?_ ?_ (fun _ => rfl) ?_ fun q2 hq2 => ?_
      · omega
      · omega
      · simp
      obtain rfl := Option.some.inj (hsx.symm.trans hq2)
      simp only [Seg.e]
      rw [← hrd]
      conv => arg 4; cbv
      refine elemM hω hrl ?_ ?_ (fun _ => rfl) ?_ fun q3 hq3 => ?_
      · omega
      · omega
      · simp
      obtain rfl := Option.some.inj (hqx.symm.trans hq3)
      simp only [hye]
      conv => arg 4; cbv
      simp only [e1]
      refine elemM hω hsegs ?_ ?_ (fun _ => rfl) ?_ fun q2 hq2 => ?_
      · omega
      · omega
      · simp
      obtain rfl := Option.some.inj (hsx.symm.trans hq2)
      simp only [Seg.e]
      rw [← hrd]
      conv => arg 4; cbv
      split
      · rename_i h6
        simp only [h6]
        simp only [bIf_rec, pIf_rec, bNot_rec, hb, hi, hp, Int.ofNat_eq_natCast] at h6
        conv => arg 4; cbv
        refine elemM hω hsegs ?_ ?_ (fun _ => rfl) ?_ fun q2 hq2 => ?_
        · omega
        · omega
        · simp
        obtain rfl := Option.some.inj (hsx.symm.trans hq2)
        simp only [Seg.e]
        rw [← hrd]
        conv => arg 4; cbv
        simp only [e2]
        refine meanE_callG hω (hin.any (by simp [undL, AV.und, iV]) (by simp [AV.und, bV]) _) ?_ ?_
        · simp [oConds, strip, St.ev]
        cases bb
        · have hsf : segAt ⟨sa, sz, sr, sd⟩ (a - lb) = false := by rw [hsg]; simp
          conv => arg 4; cbv
          refine forF_next hok2 ?_ ?_ ?_ (fun e he => by cases he) ?_ ?_
          · (conv => lhs; cbv); (conv => rhs; cbv); simp only [show (oi fun _ => IntKind.wrap .i64 (x j + 1)) = x (j + 1) from by rw [hi, hx, hx, wrap_i64 (by omega)]; push_cast; omega]
          · omega
          · intro s2 hs2
            obtain rfl := Option.some.inj (hs0.symm.trans hs2)
            exact hsf
          · simp [FgtOk, undT, undEs, undEs.undRows, undL, AV.und]
          · simp [bIf_rec, pIf_rec, bNot_rec, hb, hi, hp, Int.ofNat_eq_natCast]
        · have hst : segAt ⟨sa, sz, sr, sd⟩ (a - lb) = true := by
            rw [hsg]
            simpa [bne] using h6
          have hqi : l[i]? = some _ := (show l[i]? = l[(x i).toNat]? by rw [hxi]; rfl).trans hqx
          have hca := codeAt_some hqi (lddAt_true hs0 hst) fun j' q' hj' hq' => hok j' (by omega) q' hq'
          conv => arg 4; cbv
          refine roundG_out hω ?_ (fun h => by cases h) ?_
          · conv => arg 4; cbv
            refine roundG_out hω ?_ (fun h => by cases h) ?_
            · conv => arg 4; cbv
              refine meanE_fin hω (x i) (by (conv => lhs; cbv); all_goals rfl) ⟨rfl, rfl⟩ ?_ (fun e he => by cases he) ?_ ?_
              · rw [codeI_some hca, hxi]
              · trivial
              · simp
            · trivial
          · simp [bIf_rec, pIf_rec, bNot_rec, hb, hi, hp, Int.ofNat_eq_natCast]
      · rename_i h6
        simp only [h6]
        simp only [bIf_rec, pIf_rec, bNot_rec, hb, hi, hp, Int.ofNat_eq_natCast] at h6
        have hsf : segAt ⟨sa, sz, sr, sd⟩ (a - lb) = false := by
          rw [hsg]
          have h7 : bitsOf .and .i64 sr 4 = 0 := by simpa [bne] using h6
          rw [h7]
          rfl
        conv => arg 4; cbv
        refine forF_next hok2 ?_ ?_ ?_ (fun e he => by cases he) ?_ ?_
        · (conv => lhs; cbv); (conv => rhs; cbv); simp only [show (oi fun _ => IntKind.wrap .i64 (x j + 1)) = x (j + 1) from by rw [hi, hx, hx, wrap_i64 (by omega)]; push_cast; omega]
        · omega
        · intro s2 hs2
          obtain rfl := Option.some.inj (hs0.symm.trans hs2)
          exact hsf
        · simp [FgtOk, undT, undEs, undEs.undRows, undL, AV.und]
        · simp only [bIf_rec, pIf_rec, bNot_rec, hb, hi, hp, Int.ofNat_eq_natCast] at h6 ⊢; first | done | (simp at h6; simp [h6])
    · rename_i h2
      simp only [h2]
      simp only [bIf_rec, pIf_rec, bNot_rec, hb, hi, hp, Int.ofNat_eq_natCast] at h2
      simp at h2
      conv => arg 4; cbv
      refine roundG_out hω ?_ (fun h => by cases h) ?_
      · conv => arg 4; cbv
        refine forF_next hok ?_ ?_ ?_ (fun e he => by cases he) ?_ ?_
        · (conv => lhs; cbv); (conv => rhs; cbv); simp only [show (oi fun _ => IntKind.wrap .i64 (x i + 1)) = x (i + 1) from by rw [hi, hx, hx, wrap_i64 (by omega)]; push_cast; omega]
        · omega
        · intro q2 hq2
          obtain rfl := Option.some.inj (hqx.symm.trans (by rw [hxi]; exact hq2))
          exact lddAt_false fun k s hs => hok2 k (by have h9 := (List.getElem?_eq_some_iff.1 hs).1; simp only at h9; omega) s hs
        · simp [FgtOk, undT, undEs, undEs.undRows, undL, AV.und]
        · trivial
      · trivial
  · rename_i h
    simp only [h]
    simp only [bIf_rec, pIf_rec, bNot_rec, hb, hi, hp, Int.ofNat_eq_natCast] at h
    simp at h
    conv => arg 4; cbv
    refine roundG_out hω ?_ (fun h => by cases h) ?_
    · conv => arg 4; cbv
      refine meanE_fin hω (-1) (by (conv => lhs; cbv); all_goals rfl) ⟨rfl, rfl⟩ ?_ (fun e he => by cases he) ?_ ?_
      · rw [codeI_none (codeAt_none fun j q hq => hok j (by have := (List.getElem?_eq_some_iff.1 hq).1; omega) q hq)]
      · trivial
      · simp
    · trivial

end Go.Den.Z
namespace Go.Den.Z
open Go.Proofs
def unwF : Option UnwR → UnwR
  | none => ⟨0, -1, 0, 0⟩
  | some r => ⟨0, r.reg, r.add, r.saved⟩

theorem unwindOf_ok (l : List UnwR) (rows : List (List CV)) (hrows : rows = l.map UnwR.e) (hl : l.length ≤ 1048576) (a : Int) : PCalls P 35 [.c (.sl rows), iV a] [] (agg (UnwR.e (unwF (rowAt l a)))) := by
  suffices h : ∃ v : UnwR, v = unwF (rowAt l a) ∧ PCalls P 35 [.c (.sl rows), iV a] [] (agg (UnwR.e (v))) by
    obtain ⟨v, rfl, h⟩ := h
    exact h
  have hll : rows.length = l.length := by rw [hrows]; simp
  obtain ⟨f0, hf0⟩ : ∃ f : Nat → UnwR, ∀ i, f i = unwF (rowAt (l.take i) a) := ⟨_, fun _ => rfl⟩
  have hfN : f0 l.length = unwF (rowAt l a) := by rw [hf0, List.take_length]
  have hfs : ∀ (i : Nat) q, l[i]? = some q → f0 (i + 1) = if q.off ≤ a then ⟨0, q.reg, q.add, q.saved⟩ else f0 i := fun i q h => by
    rw [hf0, hf0, take_snoc h, rowAt_snoc]
    split <;> rfl
  have hfz : f0 0 = ⟨0, -1, 0, 0⟩ := by rw [hf0]; rfl
  have hfo : ∀ i, (f0 i).off = 0 := fun i => by
    rw [hf0]
    cases rowAt (l.take i) a <;> rfl
  rw [← hfN]
  clear hf0 hfN
  obtain ⟨fr, hfr⟩ : ∃ f : Nat → Int, ∀ i, f i = (f0 i).reg := ⟨_, fun _ => rfl⟩
  obtain ⟨fa, hfa⟩ : ∃ f : Nat → Int, ∀ i, f i = (f0 i).add := ⟨_, fun _ => rfl⟩
  obtain ⟨fs, hfs2⟩ : ∃ f : Nat → Int, ∀ i, f i = (f0 i).saved := ⟨_, fun _ => rfl⟩
  obtain ⟨x, hx⟩ := counter 0
  obtain ⟨oi, ob, op, os, on, or_, om, hω⟩ := shields
  have hi : ∀ f, oi f = f () := hω.i
  have hb : ∀ f, ob f = f () := hω.b
  have hp : ∀ f, op f = f () := hω.p
  have hs : ∀ f, os f = f () := hω.s
  have hr : ∀ f, or_ f = f () := hω.r
  refine PCalls.runE hmix hω q_linkhouseref8_UnwindOf ?_
  unfold c_linkhouseref8_UnwindOf
  conv => arg 4; cbv
  refine meanE_loopS hω [0, 1, 4, 5, 6] (fun i : Nat => [(6, iV (x i))]) (fun _ => []) (fun i => [(1, .mem 4 [[iV 0, iV (fr i), iV (fa i), iV (fs i)]])]) (fun i => i ≤ l.length) (fun i => l.length - i) 0 ?_ (Nat.zero_le _) (fun e he => by cases he) ?_ ?_ fun i hiN => ?_
  · (conv => lhs; cbv); (conv => rhs; cbv)
    rw [hfr, hfa, hfs2, hfz, show x 0 = 0 from hx 0]
  · simp [FgtOk, undT, undEs, undEs.undRows, undL, AV.und]
  · simp
  have hxi : x i = i := by rw [hx]; omega
  conv => arg 4; cbv
  split
  · rename_i h
    simp only [h]
    simp only [bIf_rec, pIf_rec, bNot_rec, hb, hi, hp, Int.ofNat_eq_natCast] at h
    simp at h
    conv => arg 4; cbv
    obtain ⟨q, hq⟩ : ∃ q, l[i]? = some q := ⟨l[i]'(by omega), by simp⟩
    have hqx : l[(x i).toNat]? = some q := by rw [hxi]; exact hq
    have hst := hfs i q hq
    have h1 := hfr (i + 1)
    have h2 := hfa (i + 1)
    have h3 := hfs2 (i + 1)
    rw [hst] at h1 h2 h3
    obtain ⟨qo, qr, qa, qs⟩ := q
    simp only at h1 h2 h3
    refine elemM hω hrows ?_ ?_ (fun _ => rfl) ?_ fun q2 hq2 => ?_
    · omega
    · omega
    · simp
    obtain rfl := Option.some.inj (hqx.symm.trans hq2)
    simp only [UnwR.e]
    conv => arg 4; cbv
    split
    · rename_i h5
      simp only [h5]
      simp only [bIf_rec, pIf_rec, bNot_rec, hb, hi, hp, Int.ofNat_eq_natCast] at h5
      rw [if_pos (by simpa using h5)] at h1 h2 h3
      conv => arg 4; cbv
      refine elemM hω hrows ?_ ?_ (fun _ => rfl) ?_ fun q2 hq2 => ?_
      · omega
      · omega
      · simp
      obtain rfl := Option.some.inj (hqx.symm.trans hq2)
      simp only [UnwR.e]
      conv => arg 4; cbv
      refine roundG_next (i + 1) ?_ ?_ ?_ (fun e he => by cases he) ?_ ?_
      · (conv => lhs; cbv); (conv => rhs; cbv); simp only [show (oi fun _ => IntKind.wrap .i64 (x i + 1)) = x (i + 1) from by rw [hi, hx, hx, wrap_i64 (by omega)]; push_cast; omega]; simp only [h1, h2, h3]
      · omega
      · omega
      · simp [FgtOk, undT, undEs, undEs.undRows, undL, AV.und]
      · simp
    · rename_i h5
      simp only [bIf_rec, pIf_rec, bNot_rec, hb, hi, hp, Int.ofNat_eq_natCast] at h5
      rw [if_neg (by simpa using h5), ← hfr] at h1
      rw [if_neg (by simpa using h5), ← hfa] at h2
      rw [if_neg (by simpa using h5), ← hfs2] at h3
      conv => arg 4; cbv
      refine roundG_next (i + 1) ?_ ?_ ?_ (fun e he => by cases he) ?_ ?_
      · (conv => lhs; cbv); (conv => rhs; cbv); simp only [show (oi fun _ => IntKind.wrap .i64 (x i + 1)) = x (i + 1) from by rw [hi, hx, hx, wrap_i64 (by omega)]; push_cast; omega]; rw [h1, h2, h3]
      · omega
      · omega
      · simp [FgtOk, undT, undEs, undEs.undRows, undL, AV.und]
      · simp
  · rename_i h
    simp only [h]
    simp only [bIf_rec, pIf_rec, bNot_rec, hb, hi, hp, Int.ofNat_eq_natCast] at h
    simp at h
    conv => arg 4; cbv
    refine roundG_out hω ?_ (fun h => by cases h) ?_
    · conv => arg 4; cbv
      refine meanE_fin hω (⟨0, fr i, fa i, fs i⟩ : UnwR) (by (conv => lhs; cbv); all_goals rfl) ⟨rfl, rfl⟩ ?_ (fun e he => by cases he) ?_ ?_
      · rw [show l.length = i by omega, hfr, hfa, hfs2]
        have h9 := hfo i
        generalize f0 i = z at h9 ⊢
        obtain ⟨zo, zr, za, zs⟩ := z
        simp only at h9
        subst h9
        rfl
      · simp
      · simp
    · trivial

end Go.Den.Z
namespace Go.Den.Z
open Go.Proofs
def accR (m : List Pag) (buf : List Pnd) (a : Int) : Nat → Int
  | 0 => 0
  | i + 1 => 256 * accR m buf a i + seenAt m buf (a + (3 - i))
theorem accR_range {m : List Pag} (h : ∀ (k : Nat) p, m[k]? = some p → LW u8r p.data) (buf : List Pnd) (a : Int) : ∀ i : Nat, i ≤ 3 → 0 ≤ accR m buf a i ∧ accR m buf a i ≤ 16777215 := by
  have hs := fun (a : Int) => seenAt_u8 h buf a
  unfold u8r at hs
  intro i hi
  have h0 := hs (a + (3 - (0 : Nat)))
  have h1 := hs (a + (3 - (1 : Nat)))
  have h2 := hs (a + (3 - (2 : Nat)))
  have hc : i = 0 ∨ i = 1 ∨ i = 2 ∨ i = 3 := by omega
  rcases hc with rfl | rfl | rfl | rfl
  · simp [accR]
  · simp only [accR]; omega
  · simp only [accR]; omega
  · simp only [accR]; omega
theorem accR_word (m : List Pag) (buf : List Pnd) (a : Int) : accR m buf a 4 = wordAt m buf a := by
  simp only [accR, wordAt]
  simp
  omega
theorem canAt_1 (m : List Pag) (a : Int) : canAt m a 1 = (bitsOf .and .i64 (rightsAt m a) 1 == 1) := rfl
theorem seen_ok (m : List Pag) (cs : List Cor) (rl rm rc ro : List (List CV)) (hrm : rm = m.map Pag.e) (hrc : rc = cs.map Cor.e) (hm : MemOk m) (hmw : LW Pag.Wf m) (hcw : LW Cor.Wf cs) (hco : ∀ (k : Nat) c, cs[k]? = some c → c.Ok) (lz : Bool) (k : Int) (c : Cor) (hk0 : 0 ≤ k) (hk : cs[k.toNat]? = some c) (a : Int) (ha : u32r a) : ∃ v : Int × Bool, v = optR (wordOf m c.buf a) ∧ PCalls P 36 [agg [.sl rl, .sl rm, .sl rc, .sl ro, bC lz], iV k, wV a] [] (.tu [wV v.1, bV v.2]) := by
  have hcan := rcan_ok m rm hrm hm a (by unfold u32r at ha; omega)
  have hkw := hcw.2 _ _ hk
  have hko := hco _ _ hk
  have hklt := (List.getElem?_eq_some_iff.1 hk).1
  have hrk : rc[k.toNat]? = some c.e := by rw [hrc]; simp [hk]
  have hcl : c.e.length = 33 := by simp [Cor.e, hkw.regs.1, hkw.vecs.1]
  have hres : optR (wordOf m c.buf a) = if a % 4 = 0 ∧ canAt m a 1 = true then (wordAt m c.buf a, true) else (0, false) := by
    unfold wordOf; split <;> rfl
  have h8 := hkw.regs.1
  have h16 := hkw.vecs.1
  have hbl := hko.len
  have hbo := hko.buf
  unfold u32r at ha
  have hmd : ∀ (k : Nat) p, m[k]? = some p → LW u8r p.data := fun k p h => (hmw.2 k p h).data
  have hbyte := fun (a : Int) (ha : 0 ≤ a ∧ a ≤ 4294967300) => rbyte_ok m rm hrm hm a ha
  have hseen : ∀ a, u8r (seenAt m c.buf a) := fun a => seenAt_u8 hmd c.buf _
  obtain ⟨acc, hacc⟩ : ∃ acc : Nat → Int, ∀ i, acc i = accR m c.buf a i := ⟨_, fun _ => rfl⟩
  have hacc4 : acc 4 = wordAt m c.buf a := by rw [hacc, accR_word]
  have hacc0 : acc 0 = 0 := by rw [hacc]; rfl
  have haccr : ∀ i, i ≤ 3 → 0 ≤ acc i ∧ acc i ≤ 16777215 := fun i h => by rw [hacc]; exact accR_range hmd c.buf a i h
  have hnext : ∀ i : Nat, acc (i + 1) = 256 * acc i + seenAt m c.buf (a + (3 - i)) := fun i => by rw [hacc, hacc]; rfl
  rw [← hacc4] at hres
  clear hacc hacc4
  generalize canAt m a 1 = cb at hcan hres
  generalize optR (wordOf m c.buf a) = res at hres ⊢
  have hres1 : a % 4 = 0 → cb = true → res = (acc 4, true) := fun h1 h2 => by rw [hres, if_pos ⟨h1, h2⟩]
  have hres2 : ¬ (a % 4 = 0 ∧ cb = true) → res = (0, false) := fun h1 => by rw [hres, if_neg h1]
  clear hres
  have ht : a.tmod 4 = a % 4 := Int.tmod_eq_emod_of_nonneg ha.1
  have hw := wrap_i64 (n := a) (by omega)
  have hsn : ∀ (a : Int) (b : List Pnd), seenAt m b a = seenL b a (byteAt m a) := fun _ _ => rfl
  obtain ⟨regs, vecs, flags, pc, tp, user, stopped, handler, cause, saved, buf⟩ := c
  simp only at h8 h16 hbl hbo hseen hnext
  obtain ⟨r0, r1, r2, r3, r4, r5, r6, r7, rfl⟩ := len8 h8
  obtain ⟨v0, v1, v2, v3, v4, v5, v6, v7, v8, v9, u0, u1, u2, u3, u4, u5, rfl⟩ := len16 h16
  simp only [Cor.e, List.map_cons, List.map_nil, List.cons_append, List.nil_append] at hrk hcl
  obtain ⟨rb, hrb⟩ : ∃ rb, rb = buf.map Pnd.e := ⟨_, rfl⟩
  rw [← hrb] at hrk hcl
  have hrbl : rb.length = buf.length := by rw [hrb]; simp
  obtain ⟨z, hz⟩ : ∃ z : Nat → Int, ∀ i : Nat, z i = 3 - i := ⟨_, fun _ => rfl⟩
  obtain ⟨x, hx⟩ := counter 0
  obtain ⟨oi, ob, op, os, on, or_, om, hω⟩ := shields
  have hi : ∀ f, oi f = f () := hω.i
  have hb : ∀ f, ob f = f () := hω.b
  have hp : ∀ f, op f = f () := hω.p
  have hs : ∀ f, os f = f () := hω.s
  have hr : ∀ f, or_ f = f () := hω.r
  have e : (oi fun _ => IntKind.i64.wrap a) = a := by rw [hi, hw]
  refine PCalls.runE hmix hω q_linkhouseref8_Seen ?_
  unfold c_linkhouseref8_Seen
  conv => arg 4; cbv
  simp only [e]
  split
  · rename_i h
    simp only [h]
    have hm4 : a % 4 = 0 := by
      simp only [bIf_rec, pIf_rec, bNot_rec, hb, hi, hp, Int.ofNat_eq_natCast] at h
      simp at h
      omega
    conv => arg 4; cbv
    refine meanE_callG hω (hcan.any (by simp [undL, AV.und, iV]) (by simp [AV.und, bV]) _) ?_ ?_
    · simp only [bIf_rec, pIf_rec, bNot_rec, hb, hi, hp, Int.ofNat_eq_natCast]; simp [oConds, h, strip, St.ev, ht, hm4]
    conv => arg 4; cbv
    split
    · rename_i h2
      simp only [h2]
      have hcb : cb = false := by
        simp only [bIf_rec, pIf_rec, bNot_rec, hb, hi, hp, Int.ofNat_eq_natCast, condT] at h2
        simp [ht, hm4] at h2
        exact h2
      conv => arg 4; cbv
      refine meanE_fin hω (0, false) (by (conv => lhs; cbv); all_goals rfl) ⟨rfl, rfl⟩ ?_ (fun e he => by cases he) ?_ ?_
      · exact (hres2 (by simp [hcb])).symm
      · simp only [bIf_rec, pIf_rec, bNot_rec, hb, hi, hp, Int.ofNat_eq_natCast]; simp [ht, hm4]
      · simp
    · rename_i h2
      simp only [h2]
      have hcb : cb = true := by
        simp only [bIf_rec, pIf_rec, bNot_rec, hb, hi, hp, Int.ofNat_eq_natCast, condT] at h2
        simp [ht, hm4] at h2
        exact h2
      conv => arg 4; cbv
      refine meanE_loopF hω [1, 3, 8, 9, 10] 4 (fun _ => True) (fun i => [(9, wV (acc i)), (10, iV (z i))]) ?_ (fun e he => by cases he) ?_ ?_ fun i hiN _ => ?_
      · (conv => lhs; cbv); (conv => rhs; cbv); rw [hacc0, show z 0 = 3 from hz 0]
      · simp [FgtOk, undT, undEs, undEs.undRows, undL, AV.und]
      · simp only [bIf_rec, pIf_rec, bNot_rec, hb, hi, hp, Int.ofNat_eq_natCast]; simp [ht, hm4]
      have hzi : z i = 3 - i := hz i
      conv => arg 4; cbv
      split
      · rename_i h3
        simp only [h3]
        simp only [bIf_rec, pIf_rec, bNot_rec, hb, hi, hp, Int.ofNat_eq_natCast] at h3
        simp at h3
        conv => arg 4; cbv
        have e5 : (oi fun _ => IntKind.i64.wrap (a + z i)) = a + (3 - i) := by rw [hi, hzi, wrap_i64 (by omega)]
        have hnx := hnext i
        have hse := hseen (a + (3 - i))
        rw [hsn] at hnx hse
        obtain ⟨ai, hai⟩ : ∃ ai : Int, ai = a + (3 - i) := ⟨_, rfl⟩
        rw [← hai] at e5 hse hnx
        have hby := hbyte ai (by omega)
        simp only [e5]
        refine meanE_call hω (hby.any (by simp [undL, AV.und, iV]) (by simp [AV.und, yV, iV, undL]) _) ?_ ?_
        · simp [oConds]
        simp only
        generalize byteAt m ai = b0 at hse hnx hby ⊢
        generalize rightsAt m ai = rt0 at hby ⊢
        conv => arg 4; cbv
        refine meanE_elem hω _ hk0 hrk hcl ?_ ?_
        · simp
        obtain ⟨sb, hsb⟩ : ∃ sb : Nat → Int, ∀ j, sb j = seenL (buf.take j) ai b0 := ⟨_, fun _ => rfl⟩
        have hsb0 : sb 0 = b0 := by rw [hsb]; rfl
        have hsbN : sb buf.length = seenL buf ai b0 := by rw [hsb, List.take_length]
        have hsb1 : ∀ (j : Nat) q, buf[j]? = some q → sb (j + 1) = if pndHas q ai then pndByte q ai else sb j := fun j q h => by rw [hsb, hsb, take_snoc h, seenL_snoc]
        clear hsb
        conv => arg 4; cbv
        refine meanE_loopF hω [1, 3, 8, 9, 10, 11, 13, 14] buf.length (fun _ => True) (fun j => [(14, iV (x j)), (11, yV (sb j))]) ?_ (fun e he => by cases he) ?_ ?_ fun j hjN _ => ?_
        · (conv => lhs; cbv); (conv => rhs; cbv); rw [hsb0, show x 0 = 0 from hx 0]
        · simp [FgtOk, undT, undEs, undEs.undRows, undL, AV.und]
        · simp
        have hxj : x j = j := by rw [hx]; omega
        conv => arg 4; cbv
        split
        · rename_i h4
          simp only [h4]
          simp only [bIf_rec, pIf_rec, bNot_rec, hb, hi, hp, Int.ofNat_eq_natCast] at h4
          simp at h4
          conv => arg 4; cbv
          simp only [e5]
          obtain ⟨q, hq⟩ : ∃ q, buf[j]? = some q := ⟨buf[j]'(by omega), by simp⟩
          have hqx : buf[(x j).toNat]? = some q := by rw [hxj]; exact hq
          have hqo := hbo j q hq
          have hq1 := hqo.size
          have hq2 := hqo.a
          have hs1 := hsb1 j q hq
          obtain ⟨qa, qs, qv⟩ := q
          simp only at hq1 hq2
          have hph : pndHas ⟨qa, qs, qv⟩ ai = (decide (qa ≤ ai) && decide (ai ≤ qa + qs - 1)) := by
            simp only [pndHas]
            rw [show (decide (ai < qa + qs) = decide (ai ≤ qa + qs - 1)) from by congr 1; simp; omega]
          obtain ⟨qh, hqh⟩ : ∃ qh : Int, qh = qa + qs - 1 := ⟨_, rfl⟩
          have e6 : (oi fun _ => IntKind.i64.wrap ((oi fun _ => IntKind.i64.wrap (qa + qs)) - 1)) = qh := by rw [hi, hi, hqh, wrap_i64 (n := qa + qs) (by omega), wrap_i64 (by omega)]
          have hin := in_ok ai qa qh
          rw [← hqh] at hph
          rw [hph] at hs1
          obtain ⟨bb, hbb⟩ : ∃ bb : Bool, bb = (decide (qa ≤ ai) && decide (ai ≤ qh)) := ⟨_, rfl⟩
          rw [← hbb] at hin hs1
          simp only [pndByte] at hs1
          repeat' first
            | (refine meanE_id ?_; conv => arg 4; cbv)
            | (refine elemM hω hrb ?_ ?_ (fun _ => rfl) ?_ fun q2 hq2 => ?_; rotate_left 3; obtain rfl := Option.some.inj (hqx.symm.trans hq2); simp only [Pnd.e])
            | (refine meanE_callQ hω (x := bV bb) ?_ ?_ ?_; rotate_left 2; cases bb)
            | (refine forF_next (fun _ _ => trivial) ?_ ?_ trivial (fun e he => by cases he) ?_ ?_)
          all_goals first
            | trivial
            | omega
            | (simp [FgtOk, undT, undEs, undEs.undRows, undL, AV.und]; done)
            | (rw [e6]; exact hin.any (by simp [undL, AV.und, iV]) (by simp [AV.und, bV]) _)
            | (have hd := wrap_i64 (n := ai - qa) (by omega)
               have e8 : (oi fun _ => IntKind.u8.wrap (oi fun _ => qv.fdiv (2 ^ min (oi fun _ => IntKind.i64.wrap (8 * (oi fun _ => IntKind.i64.wrap (ai - qa)))).toNat IntKind.u32.bits))) = sb (j + 1) := by
                 simp at hbb
                 rw [hs1, if_pos rfl]
                 simp only [hi, hd]
                 rw [wrap_i64 (n := 8 * (ai - qa)) (by omega)]
                 rfl
               (conv => lhs; cbv); (conv => rhs; cbv); simp only [e5, e8, show (oi fun _ => IntKind.wrap .i64 (x j + 1)) = x (j + 1) from by rw [hi, hx, hx, wrap_i64 (by omega)]; push_cast; omega]; done)
            | (have e8 : sb (j + 1) = sb j := by rw [hs1, if_neg (by simp)]
               (conv => lhs; cbv); (conv => rhs; cbv); simp only [e8, show (oi fun _ => IntKind.wrap .i64 (x j + 1)) = x (j + 1) from by rw [hi, hx, hx, wrap_i64 (by omega)]; push_cast; omega]; done)
            | (simp only [e5]
               have hd := wrap_i64 (n := ai - qa) (by omega)
               simp at hbb
               simp only [bIf_rec, pIf_rec, bNot_rec, hb, hi, hp, Int.ofNat_eq_natCast, hd]
               rw [wrap_i64 (n := 8 * (ai - qa)) (by omega)]
               simp
               omega)
           
        · rename_i h4
          simp only [h4]
          simp only [bIf_rec, pIf_rec, bNot_rec, hb, hi, hp, Int.ofNat_eq_natCast] at h4
          simp at h4
          conv => arg 4; cbv
          refine roundG_out hω ?_ (fun h => by cases h) ?_
          · conv => arg 4; cbv
            have hjN2 : sb j = seenL buf ai b0 := by rw [show j = buf.length by omega, hsbN]
            have hai2 := haccr i (by omega)
            unfold u8r at hse
            have e9 : (oi fun _ => IntKind.u32.wrap ((oi fun _ => IntKind.u32.wrap (256 * acc i)) + (oi fun _ => IntKind.u32.wrap (sb j)))) = acc (i + 1) := by
              simp only [hi]
              rw [hjN2, wrap_u32 (n := 256 * acc i) (by omega), wrap_u32 (n := seenL buf ai b0) (by omega), wrap_u32 (by omega), hnx]
            have ezn : (oi fun _ => IntKind.i64.wrap (z i - 1)) = z (i + 1) := by
              rw [hi, hz, hz, wrap_i64 (by omega)]
              push_cast
              omega
            refine forF_next (fun _ _ => trivial) ?_ ?_ trivial (fun e he => by cases he) ?_ ?_
            · (conv => lhs; cbv); (conv => rhs; cbv); simp only [e9, ezn]
            · omega
            · simp [FgtOk, undT, undEs, undEs.undRows, undL, AV.und]
            · simp
          · trivial
      · rename_i h3
        simp only [h3]
        simp only [bIf_rec, pIf_rec, bNot_rec, hb, hi, hp, Int.ofNat_eq_natCast] at h3
        simp at h3
        conv => arg 4; cbv
        refine roundG_out hω ?_ (fun h => by cases h) ?_
        · conv => arg 4; cbv
          refine meanE_fin hω (acc i, true) (by (conv => lhs; cbv); all_goals rfl) ⟨rfl, rfl⟩ ?_ (fun e he => by cases he) ?_ ?_
          · rw [hres1 hm4 hcb, show i = 4 by omega]
          · simp
          · simp
        · trivial
  · rename_i h
    simp only [h]
    have hm4 : ¬ a % 4 = 0 := by
      simp only [bIf_rec, pIf_rec, bNot_rec, hb, hi, hp, Int.ofNat_eq_natCast] at h
      simp at h
      omega
    conv => arg 4; cbv
    split
    · rename_i h3
      exfalso
      simp only [bIf_rec, pIf_rec, bNot_rec, hb, hi, hp, Int.ofNat_eq_natCast] at h h3
      simp_all
    rename_i h3
    conv => arg 4; cbv
    refine meanE_fin hω (0, false) (by (conv => lhs; cbv); all_goals rfl) ⟨rfl, rfl⟩ ?_ (fun e he => by cases he) ?_ ?_
    · exact (hres2 (by simp [hm4])).symm
    · simp only [bIf_rec, pIf_rec, bNot_rec, hb, hi, hp, Int.ofNat_eq_natCast] at h ⊢; simp at h ⊢; first | omega | (simp [h]; done)
    · simp

end Go.Den.Z
