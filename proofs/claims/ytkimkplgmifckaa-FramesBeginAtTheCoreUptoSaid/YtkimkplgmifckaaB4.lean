/-
  Part of the proof that FramesBeginAtTheCore returns true: contracts of the checks of an image, a scope and a memory.
  No condition.
-/
import Derived.Test.YtkimkplgmifckaaB1
import Derived.Test.YtkimkplgmifckaaB2
import Derived.Test.YtkimkplgmifckaaB3
set_option linter.unusedSimpArgs false
set_option linter.unusedVariables false
set_option maxRecDepth 20000
set_option maxHeartbeats 8000000
namespace Go.Den.Z
open Go.Proofs
theorem out155_ok (x : Img) (y : RImg) (hy : y = x.r) (hwf : x.Wf)  : ∃ c : Int × Int, (c.1 = 0 → c.2 = 0 ∧ x.types.length ≤ 30 ∧ ∀ (k : Nat) t, x.types[k]? = some t → Ty.Ok x.types k t) ∧ PCalls P 89 [.op 0 0 0] [imgE y] (fltV c.1 c.2) := by
  obtain ⟨name, shared, segs, entry, exps, imps, fixs, thr, thrSize, inits, finis, needs, id, lines, unw, files, types, vars, places⟩ := y
  have htypes : types = x.types.map Ty.e := congrArg RImg.types hy
  have ltypes : types.length = x.types.length := by rw [htypes]; simp
  have wtypes := hwf.types.1
  have hB : ∀ e ∈ [imgE ⟨name, shared, segs, entry, exps, imps, fixs, thr, thrSize, inits, finis, needs, id, lines, unw, files, types, vars, places⟩], Ent.und 1 e := imgE_und _
  unfold imgE at *
  obtain ⟨oi, ob, op, os, on, or_, om, hω⟩ := shields
  have hi : ∀ f, oi f = f () := hω.i
  have hb : ∀ f, ob f = f () := hω.b
  have hp : ∀ f, op f = f () := hω.p
  have hs : ∀ f, os f = f () := hω.s
  have hr : ∀ f, or_ f = f () := hω.r
  refine PCalls.runE hmix hω q_image_Validate_11 ?_
  unfold c_image_Validate_11
  repeat' first
    | (refine meanE_id ?_; conv => arg 4; cbv)
    | (refine finFlt hω (by (conv => lhs; cbv); all_goals rfl) ?_ hB ?_ ?_)
    | (refine callE hω (records_ok _ _ htypes hwf.types) (by (try (conv => cbv)); simp [undL, AV.und, agg]) (fun v => by simp [AV.und, undL, iV, bV, fltV, agg]) ?_ fun v hv => ?_; rotate_left 1; obtain ⟨v1, v2⟩ := v; (try simp only at hv))
    | (split <;> (rename_i h; simp only [h]; (try simp only [bIf_rec, pIf_rec, bNot_rec, hb, hi, hp, Int.ofNat_eq_natCast] at h); (try simp at h)))
    | (split <;> skip)
  all_goals first
    | trivial
    | (intro hc; exact absurd hc (by decide))
    | (simp only [bIf_rec, pIf_rec, bNot_rec, hb, hi, hp, Int.ofNat_eq_natCast, oConds, St.ev]; simp [strip]; done)
    | (intro hc; have := hv hc; exfalso; simp_all; done)
    | (intro hc; have := hv hc; grind)
    | (intro hc; have := hv (by grind); grind)
   

end Go.Den.Z
namespace Go.Den.Z
open Go.Proofs
theorem in129_ok (x : Img) (y : RImg) (hy : y = x.r) (hwf : x.Wf) (l : List Int) (rows : List (List CV)) (hrows : rows = l.map eI) (hl : l.length ≤ 1048576) (k : Int) (hk0 : 0 ≤ k) (hk : k < l.length) : ∃ c : Int, True ∧ PCalls P 63 [iV k, .op 0 0 0, .rp [[.sl rows]] 0 0] [imgE y] (iV c) := by
  obtain ⟨name, shared, segs, entry, exps, imps, fixs, thr, thrSize, inits, finis, needs, id, lines, unw, files, types, vars, places⟩ := y
  have wsegs := hwf.segs.1
  have hB : ∀ e ∈ [imgE ⟨name, shared, segs, entry, exps, imps, fixs, thr, thrSize, inits, finis, needs, id, lines, unw, files, types, vars, places⟩], Ent.und 1 e := imgE_und _
  unfold imgE at *
  have hll : rows.length = l.length := by rw [hrows]; simp
  obtain ⟨oi, ob, op, os, on, or_, om, hω⟩ := shields
  have hi : ∀ f, oi f = f () := hω.i
  have hb : ∀ f, ob f = f () := hω.b
  have hp : ∀ f, op f = f () := hω.p
  have hs : ∀ f, os f = f () := hω.s
  have hr : ∀ f, or_ f = f () := hω.r
  refine PCalls.runE hmix hω q_image_Validate_1_1 ?_
  unfold c_image_Validate_1_1
  repeat' first
    | (refine meanE_id ?_; conv => arg 4; cbv)
    | (refine finInt hω (by (conv => lhs; cbv); all_goals rfl) ?_ hB ?_ ?_)
    | (refine callQE hω (within_ok x _ hy (by omega) _ _ _) (by (try (conv => cbv)); simp [undL, AV.und, agg]) (fun v => by simp [AV.und, undL, iV, bV, fltV, agg]) ?_ fun v hv => ?_)
    | (refine callQE hω (when_ok _ _) (by (try (conv => cbv)); simp [undL, AV.und, agg]) (fun v => by simp [AV.und, undL, iV, bV, fltV, agg]) ?_ fun v hv => ?_)
    | (refine elemM hω hrows ?_ ?_ (fun _ => rfl) ?_ fun q hq => ?_)
    | (split <;> (rename_i h; simp only [h]; (try simp only [bIf_rec, pIf_rec, bNot_rec, hb, hi, hp, Int.ofNat_eq_natCast] at h); (try simp at h)))
    | (split <;> skip)
  all_goals first | omega | (simp; done) | (simp only [hi]; (try rw [wrap_i64 (by omega)]); omega) | (simp only [bIf_rec, pIf_rec, bNot_rec, hb, hi, hp, Int.ofNat_eq_natCast]; simp; done) | (simp; omega) | (simp only [bIf_rec, pIf_rec, bNot_rec, hb, hi, hp, Int.ofNat_eq_natCast]; simp; omega) | trivial | (simp only [bIf_rec, pIf_rec, bNot_rec, hb, hi, hp, Int.ofNat_eq_natCast]; simp_all; done) | (simp only [bIf_rec, pIf_rec, bNot_rec, hb, hi, hp, Int.ofNat_eq_natCast]; simp_all; omega) | (simp only [bIf_rec, pIf_rec, bNot_rec, hb, hi, hp, Int.ofNat_eq_natCast, oConds, St.ev]; simp [strip]; done) | (simp only [bIf_rec, pIf_rec, bNot_rec, hb, hi, hp, Int.ofNat_eq_natCast, oConds, St.ev]; simp [strip]; simp_all; done) | (simp only [bIf_rec, pIf_rec, bNot_rec, hb, hi, hp, Int.ofNat_eq_natCast]; grind) | (exfalso; simp only [bIf_rec, bNot_rec] at *; simp_all; done) | (exfalso; rename_i heq; simp only [bIf_rec, pIf_rec, bNot_rec, hb, hi, hp, Int.ofNat_eq_natCast] at heq; simp at heq; omega) | (exfalso; rename_i heq; simp only [bIf_rec, pIf_rec, bNot_rec, hb, hi, hp, Int.ofNat_eq_natCast] at heq; simp at heq; simp_all; omega) | (exfalso; rename_i heq; simp only [bIf_rec, pIf_rec, bNot_rec, hb, hi, hp, Int.ofNat_eq_natCast] at heq; grind) | skip

theorem out128_ok (y : RImg) (rows : List (List CV)) : PCalls P 62 [.c (.sl rows), .op 0 0 0] [imgE y] (.fn 63 [.op 0 0 0, .rp [[.sl rows]] 0 0]) := by
  have h : ∃ c : Int, True ∧ PCalls P 62 [.c (.sl rows), .op 0 0 0] [imgE y] (.fn 63 [.op 0 0 0, .rp [[.sl rows]] 0 0]) := by
    obtain ⟨name, shared, segs, entry, exps, imps, fixs, thr, thrSize, inits, finis, needs, id, lines, unw, files, types, vars, places⟩ := y
    have hB : ∀ e ∈ [imgE ⟨name, shared, segs, entry, exps, imps, fixs, thr, thrSize, inits, finis, needs, id, lines, unw, files, types, vars, places⟩], Ent.und 1 e := imgE_und _
    unfold imgE at *
    obtain ⟨oi, ob, op, os, on, or_, om, hω⟩ := shields
    have hi : ∀ f, oi f = f () := hω.i
    have hb : ∀ f, ob f = f () := hω.b
    have hp : ∀ f, op f = f () := hω.p
    have hs : ∀ f, os f = f () := hω.s
    have hr : ∀ f, or_ f = f () := hω.r
    refine PCalls.runE hmix hω q_image_Validate_1 ?_
    unfold c_image_Validate_1
    conv => arg 4; cbv
    exact meanE_fin hω (0 : Int) (by (conv => lhs; cbv); all_goals rfl) ⟨rfl, rfl⟩ trivial hB trivial (by simp)
  obtain ⟨_, _, h⟩ := h
  exact h

theorem out142_ok (x : Img) (y : RImg) (hy : y = x.r) (hwf : x.Wf) (E1 E2 : Ent) (h1 : Ent.und 4 E1) (h2 : Ent.und 4 E2) : ∃ c : Int × Int, (c.1 = 0 → c.2 = 0) ∧ PCalls P 76 [.op 0 0 0, .op 3 0 0] [imgE y, E1, E2, .mem 1 [[.fn 62 [.op 0 0 0]]]] (fltV c.1 c.2) := by
  have hC := out128_ok y y.inits
  obtain ⟨name, shared, segs, entry, exps, imps, fixs, thr, thrSize, inits, finis, needs, id, lines, unw, files, types, vars, places⟩ := y
  have hinits : inits = x.inits.map eI := congrArg RImg.inits hy
  have linits : inits.length = x.inits.length := by rw [hinits]; simp
  have winits := hwf.inits.1
  have hB : ∀ e ∈ [imgE ⟨name, shared, segs, entry, exps, imps, fixs, thr, thrSize, inits, finis, needs, id, lines, unw, files, types, vars, places⟩], Ent.und 1 e := imgE_und _
  have hB1 : ∀ e ∈ [imgE ⟨name, shared, segs, entry, exps, imps, fixs, thr, thrSize, inits, finis, needs, id, lines, unw, files, types, vars, places⟩, E1, E2, .mem 1 [[.fn 62 [.op 0 0 0]]]], Ent.und 4 e := by
    intro e he
    simp at he
    rcases he with rfl | rfl | rfl | rfl
    · exact und_mono0 (by omega) (hB _ (List.mem_singleton.2 rfl))
    · exact h1
    · exact h2
    · simp [Ent.und, undL, AV.und]
  have hin := in129_ok x _ hy hwf x.inits _ hinits winits
  have hCX : ∀ X, PCalls P 62 [.c (.sl inits), .op 0 0 0] ([imgE ⟨name, shared, segs, entry, exps, imps, fixs, thr, thrSize, inits, finis, needs, id, lines, unw, files, types, vars, places⟩] ++ X) (.fn 63 [.op 0 0 0, .rp [[.sl inits]] 0 0]) := fun X => hC.weaken (by simp [undL, AV.und]) (by simp [AV.und, undL]) hB
  unfold imgE at *
  obtain ⟨oi, ob, op, os, on, or_, om, hω⟩ := shields
  have hi : ∀ f, oi f = f () := hω.i
  have hb : ∀ f, ob f = f () := hω.b
  have hp : ∀ f, op f = f () := hω.p
  have hs : ∀ f, os f = f () := hω.s
  have hr : ∀ f, or_ f = f () := hω.r
  refine PCalls.runE hmix hω q_image_Validate_5 ?_
  unfold c_image_Validate_5
  repeat' first
    | (refine meanE_id ?_; conv => arg 4; cbv)
    | (refine finFlt hω (by (conv => lhs; cbv); all_goals rfl) ?_ hB1 ?_ ?_)
    | (refine meanE_callQ hω (hCX _) ?_ ?_)
    | (refine meanE_callQF hω (eachW _ (hB _ (List.mem_singleton.2 (by rfl))) _ _ _ _ x.inits.length ?_ (by omega) 63 [.op 0 0 0, .rp [[.sl inits]] 0 0] (by simp [undL, AV.und]) (fun _ => True) (fun k hk => (hin k (by omega) (by omega)).imp fun c hc => ⟨fun _ => trivial, hc.2⟩)) ?_ fun c hc => ?_)
  all_goals first
    | trivial
    | (intro hc2; exact (hc hc2).1)
    | (rw [hi]; simp [linits]; done)
    | (simp only [bIf_rec, pIf_rec, bNot_rec, hb, hi, hp, Int.ofNat_eq_natCast, oConds, St.ev]; simp [strip]; done)
   

theorem out143_ok (x : Img) (y : RImg) (hy : y = x.r) (hwf : x.Wf) (E1 E2 : Ent) (h1 : Ent.und 4 E1) (h2 : Ent.und 4 E2) : ∃ c : Int × Int, (c.1 = 0 → c.2 = 0) ∧ PCalls P 77 [.op 0 0 0, .op 3 0 0] [imgE y, E1, E2, .mem 1 [[.fn 62 [.op 0 0 0]]]] (fltV c.1 c.2) := by
  have hC := out128_ok y y.finis
  obtain ⟨name, shared, segs, entry, exps, imps, fixs, thr, thrSize, inits, finis, needs, id, lines, unw, files, types, vars, places⟩ := y
  have hfinis : finis = x.finis.map eI := congrArg RImg.finis hy
  have lfinis : finis.length = x.finis.length := by rw [hfinis]; simp
  have wfinis := hwf.finis.1
  have hB : ∀ e ∈ [imgE ⟨name, shared, segs, entry, exps, imps, fixs, thr, thrSize, inits, finis, needs, id, lines, unw, files, types, vars, places⟩], Ent.und 1 e := imgE_und _
  have hB1 : ∀ e ∈ [imgE ⟨name, shared, segs, entry, exps, imps, fixs, thr, thrSize, inits, finis, needs, id, lines, unw, files, types, vars, places⟩, E1, E2, .mem 1 [[.fn 62 [.op 0 0 0]]]], Ent.und 4 e := by
    intro e he
    simp at he
    rcases he with rfl | rfl | rfl | rfl
    · exact und_mono0 (by omega) (hB _ (List.mem_singleton.2 rfl))
    · exact h1
    · exact h2
    · simp [Ent.und, undL, AV.und]
  have hin := in129_ok x _ hy hwf x.finis _ hfinis wfinis
  have hCX : ∀ X, PCalls P 62 [.c (.sl finis), .op 0 0 0] ([imgE ⟨name, shared, segs, entry, exps, imps, fixs, thr, thrSize, inits, finis, needs, id, lines, unw, files, types, vars, places⟩] ++ X) (.fn 63 [.op 0 0 0, .rp [[.sl finis]] 0 0]) := fun X => hC.weaken (by simp [undL, AV.und]) (by simp [AV.und, undL]) hB
  unfold imgE at *
  obtain ⟨oi, ob, op, os, on, or_, om, hω⟩ := shields
  have hi : ∀ f, oi f = f () := hω.i
  have hb : ∀ f, ob f = f () := hω.b
  have hp : ∀ f, op f = f () := hω.p
  have hs : ∀ f, os f = f () := hω.s
  have hr : ∀ f, or_ f = f () := hω.r
  refine PCalls.runE hmix hω q_image_Validate_6 ?_
  unfold c_image_Validate_6
  repeat' first
    | (refine meanE_id ?_; conv => arg 4; cbv)
    | (refine finFlt hω (by (conv => lhs; cbv); all_goals rfl) ?_ hB1 ?_ ?_)
    | (refine meanE_callQ hω (hCX _) ?_ ?_)
    | (refine meanE_callQF hω (eachW _ (hB _ (List.mem_singleton.2 (by rfl))) _ _ _ _ x.finis.length ?_ (by omega) 63 [.op 0 0 0, .rp [[.sl finis]] 0 0] (by simp [undL, AV.und]) (fun _ => True) (fun k hk => (hin k (by omega) (by omega)).imp fun c hc => ⟨fun _ => trivial, hc.2⟩)) ?_ fun c hc => ?_)
  all_goals first
    | trivial
    | (intro hc2; exact (hc hc2).1)
    | (rw [hi]; simp [lfinis]; done)
    | (simp only [bIf_rec, pIf_rec, bNot_rec, hb, hi, hp, Int.ofNat_eq_natCast, oConds, St.ev]; simp [strip]; done)
   

end Go.Den.Z
namespace Go.Den.Z
open Go.Proofs
theorem head_ok (x : Img) (y : RImg) (hy : y = x.r) (hwf : x.Wf)  : ∃ c : Int × Int, (c.1 = 0 → c.2 = 0 ∧ ∀ (k : Nat) s, x.segs[k]? = some s → s.Ok) ∧ PCalls P 61 [agg y.e] [] (fltV c.1 c.2) := by
  have hnm : szr y.name := by rw [hy]; exact hwf.name
  have hsg : y.segs = x.segs.map Seg.e := congrArg RImg.segs hy
  obtain ⟨name, shared, segs, entry, exps, imps, fixs, thr, thrSize, inits, finis, needs, id, lines, unw, files, types, vars, places⟩ := y
  have wsegs := hwf.segs.1
  have hthr : thr = x.thr.map eY := congrArg RImg.thr hy
  have lthr : thr.length = x.thr.length := by rw [hthr]; simp
  have wthr := hwf.thr.1
  simp only at hnm hsg
  obtain ⟨oi, ob, op, os, on, or_, om, hω⟩ := shields
  have hi : ∀ f, oi f = f () := hω.i
  have hb : ∀ f, ob f = f () := hω.b
  have hp : ∀ f, op f = f () := hω.p
  have hs : ∀ f, os f = f () := hω.s
  have hr : ∀ f, or_ f = f () := hω.r
  refine PCalls.runE hmix hω q_image_head ?_
  unfold c_image_head
  repeat' first
    | (refine meanE_id ?_; conv => arg 4; cbv)
    | (refine finFlt hω (by conv => lhs; cbv) ?_ (fun e he => by cases he) ?_ ?_)
    | (refine callE hω (isName2_ok _ hnm) (by (try (conv => cbv)); simp [undL, AV.und, agg]) (fun v => by simp [AV.und, undL, iV, bV, fltV, agg]) ?_ fun v hv => ?_)
    | (refine callE hω (segments_ok _ _ hsg hwf.segs) (by (try (conv => cbv)); simp [undL, AV.und, agg]) (fun v => by simp [AV.und, undL, iV, bV, fltV, agg]) ?_ fun v hvs => ?_; rotate_left 1; obtain ⟨v1, v2⟩ := v; (try simp only at hvs))
    | (refine callE hω (within_ok x _ hy (by omega) _ _ _) (by (try (conv => cbv)); simp [undL, AV.und, agg]) (fun v => by simp [AV.und, undL, iV, bV, fltV, agg]) ?_ fun v hv => ?_)
    | (refine callGE hω (within_ok x _ hy (by omega) _ _ _) (by (try (conv => cbv)); simp [undL, AV.und, agg]) (fun v => by simp [AV.und, undL, iV, bV, fltV, agg]) ?_ fun v hv => ?_)
    | (split <;> (rename_i h; simp only [h]; (try simp only [bIf_rec, pIf_rec, bNot_rec, hb, hi, hp, Int.ofNat_eq_natCast] at h); (try simp at h)))
    | (split <;> skip)
  all_goals first
    | trivial
    | (intro hc; exact absurd hc (by decide))
    | (intro hc; have := hvs hc; exfalso; simp_all; done)
    | (intro hc; exact ⟨rfl, (hvs (by omega)).2⟩)
    | (intro hc; exact hvs hc)
    | (simp only [bIf_rec, pIf_rec, bNot_rec, hb, hi, hp, Int.ofNat_eq_natCast, oConds, St.ev]; simp [strip]; done)
    | (exfalso; rename_i heq; simp only [bIf_rec, pIf_rec, bNot_rec, hb, hi, hp, Int.ofNat_eq_natCast] at heq; simp at heq; omega)
    | (exfalso; rename_i heq; simp only [bIf_rec, pIf_rec, bNot_rec, hb, hi, hp, Int.ofNat_eq_natCast] at heq; grind)
    | ((repeat' apply And.intro) <;> first | trivial | (simp only [bIf_rec, pIf_rec, bNot_rec, hb, hi, hp, Int.ofNat_eq_natCast]; simp; done) | (simp only [bIf_rec, pIf_rec, bNot_rec, hb, hi, hp, Int.ofNat_eq_natCast]; simp; omega) | (simp only [bIf_rec, pIf_rec, bNot_rec, hb, hi, hp, Int.ofNat_eq_natCast, oConds, St.ev]; simp [strip]; done) | (simp only [bIf_rec, pIf_rec, bNot_rec, hb, hi, hp, Int.ofNat_eq_natCast]; grind))
   

end Go.Den.Z
namespace Go.Den.Z
open Go.Proofs
theorem unwindRow2_ok (x : Img) (y : RImg) (hy : y = x.r) (k : Int) (h0 : 0 ≤ k) (h1 : k < x.unw.length) (h2 : x.unw.length < 9223372036854775807) : ∃ c : Int, (c = 0 → ∀ q, x.unw[k.toNat]? = some q → (∀ p, 0 < k → x.unw[(k - 1).toNat]? = some p → p.off < q.off) ∧ -1 ≤ q.reg ∧ q.reg ≤ 7 ∧ 0 ≤ q.off ∧ q.off ≤ 1048576 ∧ -1048576 ≤ q.add ∧ q.add ≤ 1048576 ∧ -1048576 ≤ q.saved ∧ q.saved ≤ 0) ∧ PCalls P 88 [agg y.e, iV k] [] (iV c) := by
  obtain ⟨name, shared, segs, entry, exps, imps, fixs, thr, thrSize, inits, finis, needs, id, lines, unw, files, types, vars, places⟩ := y
  have hunw : unw = x.unw.map UnwR.e := congrArg RImg.unw hy
  have lunw : unw.length = x.unw.length := by rw [hunw]; simp
  obtain ⟨oi, ob, op, os, on, or_, om, hω⟩ := shields
  have hi : ∀ f, oi f = f () := hω.i
  have hb : ∀ f, ob f = f () := hω.b
  have hp : ∀ f, op f = f () := hω.p
  have hs : ∀ f, os f = f () := hω.s
  have hr : ∀ f, or_ f = f () := hω.r
  refine PCalls.runE hmix hω q_image_unwindRow ?_
  unfold c_image_unwindRow
  repeat' first
    | (refine meanE_id ?_; conv => arg 4; cbv)
    | (refine finInt hω (by conv => lhs; cbv) ?_ (fun e he => by cases he) ?_ ?_)
    | (refine callE hω (when_ok _ _) (by simp [undL, AV.und, agg]) (fun v => by simp [AV.und, undL, iV, bV, fltV, agg]) ?_ fun v hv => ?_)
    | (refine callGE hω (when_ok _ _) (by simp [undL, AV.und, agg]) (fun v => by simp [AV.und, undL, iV, bV, fltV, agg]) ?_ fun v hv => ?_)
    | (refine callQE hω (when_ok _ _) (by simp [undL, AV.und, agg]) (fun v => by simp [AV.und, undL, iV, bV, fltV, agg]) ?_ fun v hv => ?_)
    | (refine elemM hω hunw ?_ ?_ (fun _ => rfl) ?_ fun q hq => ?_; rotate_left 3; obtain ⟨uo, ur, ua, us⟩ := q)
    | (split <;> (rename_i h; simp only [h]; (try simp only [bIf_rec, pIf_rec, bNot_rec, hb, hi, hp, Int.ofNat_eq_natCast] at h); (try simp at h)))
    | (split <;> skip)
  all_goals first
    | omega
    | (simp; done)
    | (simp only [hi]; (try rw [wrap_i64 (by omega)]); omega)
    | (intro hc; exact absurd hc (by decide))
    | (simp only [bIf_rec, pIf_rec, bNot_rec, hb, hi, hp, Int.ofNat_eq_natCast]; simp; done)
    | (simp; omega)
    | (simp only [bIf_rec, pIf_rec, bNot_rec, hb, hi, hp, Int.ofNat_eq_natCast]; simp; omega)
    | (have hh := ‹x.unw[k.toNat]? = some _›; have hkw : IntKind.i64.wrap (k - 1) = k - 1 := wrap_i64 (by omega); intro hc q hq0; rw [hh] at hq0; cases hq0; simp only [bIf_rec, pIf_rec, bNot_rec, hb, hi, hp, Int.ofNat_eq_natCast, hkw] at *; refine ⟨?_, by omega⟩; intro p hp0 hp1; first | (exfalso; omega) | (have hp2 := ‹x.unw[(k - 1).toNat]? = some _›; grind) | grind)
   

def UnwFact2 (x : Img) (k : Nat) : Prop := ∀ q, x.unw[k]? = some q → (∀ p, 0 < (k : Int) → x.unw[((k : Int) - 1).toNat]? = some p → p.off < q.off) ∧ -1 ≤ q.reg ∧ q.reg ≤ 7 ∧ 0 ≤ q.off ∧ q.off ≤ 1048576 ∧ -1048576 ≤ q.add ∧ q.add ≤ 1048576 ∧ -1048576 ≤ q.saved ∧ q.saved ≤ 0

theorem in153b_ok (x : Img) (y : RImg) (hy : y = x.r) (hwf : x.Wf) (k : Int) (hk0 : 0 ≤ k) (hk : k < x.unw.length) : ∃ c : Int, (c = 0 → UnwFact2 x k.toNat) ∧ PCalls P 87 [iV k, .op 0 0 0] [imgE y] (iV c) := by
  obtain ⟨name, shared, segs, entry, exps, imps, fixs, thr, thrSize, inits, finis, needs, id, lines, unw, files, types, vars, places⟩ := y
  have hunw : unw = x.unw.map UnwR.e := congrArg RImg.unw hy
  have lunw : unw.length = x.unw.length := by rw [hunw]; simp
  have wunw := hwf.unw.1
  have wsegs := hwf.segs.1
  have hB : ∀ e ∈ [imgE ⟨name, shared, segs, entry, exps, imps, fixs, thr, thrSize, inits, finis, needs, id, lines, unw, files, types, vars, places⟩], Ent.und 1 e := imgE_und _
  unfold imgE at *
  obtain ⟨oi, ob, op, os, on, or_, om, hω⟩ := shields
  have hi : ∀ f, oi f = f () := hω.i
  have hb : ∀ f, ob f = f () := hω.b
  have hp : ∀ f, op f = f () := hω.p
  have hs : ∀ f, os f = f () := hω.s
  have hr : ∀ f, or_ f = f () := hω.r
  refine PCalls.runE hmix hω q_image_Validate_10_1 ?_
  unfold c_image_Validate_10_1
  repeat' first
    | (refine meanE_id ?_; conv => arg 4; cbv)
    | (refine finInt hω (by (conv => lhs; cbv); all_goals rfl) ?_ hB ?_ ?_)
    | (refine callE hω (unwindRow2_ok x _ hy _ hk0 hk (by omega)) (by (try (conv => cbv)); simp [undL, AV.und, agg]) (fun v => by simp [AV.und, undL, iV, bV, fltV, agg]) ?_ fun v hv => ?_)
    | (refine callGE hω (unwindRow2_ok x _ hy _ hk0 hk (by omega)) (by (try (conv => cbv)); simp [undL, AV.und, agg]) (fun v => by simp [AV.und, undL, iV, bV, fltV, agg]) ?_ fun v hv => ?_)
    | (refine callQE hω (unwindRow2_ok x _ hy _ hk0 hk (by omega)) (by (try (conv => cbv)); simp [undL, AV.und, agg]) (fun v => by simp [AV.und, undL, iV, bV, fltV, agg]) ?_ fun v hv => ?_)
    | (split <;> (rename_i h; simp only [h]; (try simp only [bIf_rec, pIf_rec, bNot_rec, hb, hi, hp, Int.ofNat_eq_natCast] at h); (try simp at h)))
    | (split <;> skip)
  all_goals first | omega | (simp; done) | (simp only [hi]; (try rw [wrap_i64 (by omega)]); omega) | (simp only [bIf_rec, pIf_rec, bNot_rec, hb, hi, hp, Int.ofNat_eq_natCast]; simp; done) | (simp; omega) | (simp only [bIf_rec, pIf_rec, bNot_rec, hb, hi, hp, Int.ofNat_eq_natCast]; simp; omega) | (intro hc; assumption) | (intro hc; exact hv hc) | (intro hc; have := hv hc; unfold UnwFact2; rw [show ((k.toNat : Nat) : Int) = k by omega]; exact this) | trivial | (simp only [bIf_rec, pIf_rec, bNot_rec, hb, hi, hp, Int.ofNat_eq_natCast]; simp_all; done) | (simp only [bIf_rec, pIf_rec, bNot_rec, hb, hi, hp, Int.ofNat_eq_natCast]; simp_all; omega) | (simp only [bIf_rec, pIf_rec, bNot_rec, hb, hi, hp, Int.ofNat_eq_natCast, oConds, St.ev]; simp [strip]; done) | (simp only [bIf_rec, pIf_rec, bNot_rec, hb, hi, hp, Int.ofNat_eq_natCast, oConds, St.ev]; simp [strip]; simp_all; done) | (simp only [bIf_rec, pIf_rec, bNot_rec, hb, hi, hp, Int.ofNat_eq_natCast]; grind) | (exfalso; simp only [bIf_rec, bNot_rec] at *; simp_all; done) | (exfalso; rename_i heq; simp only [bIf_rec, pIf_rec, bNot_rec, hb, hi, hp, Int.ofNat_eq_natCast] at heq; simp at heq; omega) | (exfalso; rename_i heq; simp only [bIf_rec, pIf_rec, bNot_rec, hb, hi, hp, Int.ofNat_eq_natCast] at heq; simp at heq; simp_all; omega) | (exfalso; rename_i heq; simp only [bIf_rec, pIf_rec, bNot_rec, hb, hi, hp, Int.ofNat_eq_natCast] at heq; grind) | skip

theorem out152b_ok (x : Img) (y : RImg) (hy : y = x.r) (hwf : x.Wf)  : ∃ c : Int × Int, (c.1 = 0 → c.2 = 0 ∧ (x.unw.length : Int) ≤ 2000 ∧ ∀ k : Nat, k < x.unw.length → UnwFact2 x k) ∧ PCalls P 86 [.op 0 0 0] [imgE y] (fltV c.1 c.2) := by
  obtain ⟨name, shared, segs, entry, exps, imps, fixs, thr, thrSize, inits, finis, needs, id, lines, unw, files, types, vars, places⟩ := y
  have hunw : unw = x.unw.map UnwR.e := congrArg RImg.unw hy
  have lunw : unw.length = x.unw.length := by rw [hunw]; simp
  have wunw := hwf.unw.1
  have hB : ∀ e ∈ [imgE ⟨name, shared, segs, entry, exps, imps, fixs, thr, thrSize, inits, finis, needs, id, lines, unw, files, types, vars, places⟩], Ent.und 1 e := imgE_und _
  have hin := in153b_ok x _ hy hwf
  unfold imgE at *
  obtain ⟨oi, ob, op, os, on, or_, om, hω⟩ := shields
  have hi : ∀ f, oi f = f () := hω.i
  have hb : ∀ f, ob f = f () := hω.b
  have hp : ∀ f, op f = f () := hω.p
  have hs : ∀ f, os f = f () := hω.s
  have hr : ∀ f, or_ f = f () := hω.r
  refine PCalls.runE hmix hω q_image_Validate_10 ?_
  unfold c_image_Validate_10
  repeat' first
    | (refine meanE_id ?_; conv => arg 4; cbv)
    | (refine finFlt hω (by (conv => lhs; cbv); all_goals rfl) ?_ hB ?_ ?_)
    | (refine meanE_callF hω (eachW _ (hB _ (List.mem_singleton.2 (by rfl))) _ _ _ _ x.unw.length ?_ (by omega) _ _ (by simp [undL, AV.und]) (fun k => UnwFact2 x k) (fun k hk => hin k (by omega) (by omega))) ?_ fun c hc => ?_)
  all_goals first
    | trivial
    | exact hc
    | (rw [hi]; simp [lunw]; done)
    | (simp only [bIf_rec, pIf_rec, bNot_rec, hb, hi, hp, Int.ofNat_eq_natCast, oConds, St.ev]; simp [strip]; done)
    | skip

end Go.Den.Z
namespace Go.Den.Z
open Go.Proofs
theorem wkI {N : FuncId} {y : RImg} {F : Int × Int → Prop} (h : ∃ c : Int × Int, F c ∧ PCalls P N [.op 0 0 0] [imgE y] (fltV c.1 c.2)) (X : List Ent) : ∃ c : Int × Int, F c ∧ PCalls P N [.op 0 0 0] ([imgE y] ++ X) (fltV c.1 c.2) := by
  obtain ⟨c, h1, h2⟩ := h
  exact ⟨c, h1, h2.weaken (by simp [undL, AV.und]) (by simp [AV.und, undL, fltV, agg]) (imgE_und _)⟩
theorem wkI4 {N : FuncId} {y : RImg} {E1 E2 : Ent} {F : Int × Int → Prop} (h : ∃ c : Int × Int, F c ∧ PCalls P N [.op 0 0 0, .op 3 0 0] [imgE y, E1, E2, .mem 1 [[.fn 62 [.op 0 0 0]]]] (fltV c.1 c.2)) (h1 : Ent.und 4 E1) (h2 : Ent.und 4 E2) (X : List Ent) : ∃ c : Int × Int, F c ∧ PCalls P N [.op 0 0 0, .op 3 0 0] ([imgE y, E1, E2, .mem 1 [[.fn 62 [.op 0 0 0]]]] ++ X) (fltV c.1 c.2) := by
  obtain ⟨c, g1, g2⟩ := h
  exact ⟨c, g1, g2.weaken (by simp [undL, AV.und]) (by simp [AV.und, undL, fltV, agg]) (by
    intro e he
    simp at he
    rcases he with rfl | rfl | rfl | rfl
    · exact und_mono0 (show 1 ≤ 4 by omega) (imgE_und _ _ (List.mem_singleton.2 rfl))
    · exact h1
    · exact h2
    · simp [Ent.und, undL, AV.und])⟩
def okI (x : Img) (i : Nat) : Prop := (i = 8 → ∀ k : Nat, k < x.unw.length → UnwFact2 x k) ∧ (i = 9 → ∀ (k : Nat) t, x.types[k]? = some t → Ty.Ok x.types k t) ∧ (i = 10 → ∀ k : Nat, k < x.vars.length → ∀ v, x.vars[k]? = some v → 0 ≤ v.ty ∧ v.ty < x.types.length ∧ withinF x.segs v.addr 0 0 = true)

theorem imageValidate_ok (x : Img) (y : RImg) (hy : y = x.r) (hwf : x.Wf) : ∃ c : Int × Int, (c.1 = 0 → c.2 = 0 ∧ (∀ (k : Nat) s, x.segs[k]? = some s → s.Ok) ∧ ∀ i, i < 12 → okI x i) ∧ PCalls P 54 [agg y.e] [] (fltV c.1 c.2) := by
  have hhd := head_ok x y hy hwf
  obtain ⟨name, shared, segs, entry, exps, imps, fixs, thr, thrSize, inits, finis, needs, id, lines, unw, files, types, vars, places⟩ := y
  obtain ⟨oi, ob, op, os, on, or_, om, hω⟩ := shields
  have hi : ∀ f, oi f = f () := hω.i
  have hb : ∀ f, ob f = f () := hω.b
  have hp : ∀ f, op f = f () := hω.p
  have hs : ∀ f, os f = f () := hω.s
  have hr : ∀ f, or_ f = f () := hω.r
  refine PCalls.runE hmix hω q_image_Validate ?_
  unfold c_image_Validate
  repeat' first
    | (refine meanE_id ?_; conv => arg 4; cbv)
    | (refine finFlt hω (by conv => lhs; cbv) ?_ (fun e he => by cases he) ?_ ?_)
    | (refine callE hω hhd (by (try (conv => cbv)); simp [undL, AV.und, agg]) (fun v => by simp [AV.und, undL, iV, bV, fltV, agg]) ?_ fun v hvs => ?_; rotate_left 1; obtain ⟨v1, v2⟩ := v; (try simp only at hvs))
    | (refine meanE_loopF hω [2, 29, 30, 31] 12 (okI x) (fun i => [(31, iV (i : Int))]) ?_ (fun e he => by cases he) ?_ ?_ fun i hiN hok => ?_; rotate_left 3; obtain rfl | rfl | rfl | rfl | rfl | rfl | rfl | rfl | rfl | rfl | rfl | rfl | rfl : i = 0 ∨ i = 1 ∨ i = 2 ∨ i = 3 ∨ i = 4 ∨ i = 5 ∨ i = 6 ∨ i = 7 ∨ i = 8 ∨ i = 9 ∨ i = 10 ∨ i = 11 ∨ i = 12 := by omega)
    | (refine forF_next hok ?_ ?_ ?_ (fun e he => by cases he) ?_ ?_)
    | (refine roundG_out hω ?_ (fun h => by cases h) ?_)
    | (refine meanE_callF hω (wkI (out132_ok x _ hy hwf) _) ?_ fun v hv => ?_; rotate_left 1; obtain ⟨w1, w2⟩ := v; (try simp only at hv))
    | (refine meanE_callF hω (wkI (out136_ok x _ hy hwf) _) ?_ fun v hv => ?_; rotate_left 1; obtain ⟨w1, w2⟩ := v; (try simp only at hv))
    | (refine meanE_callF hω (wkI (out139_ok x _ hy hwf) _) ?_ fun v hv => ?_; rotate_left 1; obtain ⟨w1, w2⟩ := v; (try simp only at hv))
    | (refine meanE_callF hω (wkI4 (out142_ok x _ hy hwf _ _ ?_ ?_) ?_ ?_ _) ?_ fun v hv => ?_; rotate_left 5; obtain ⟨w1, w2⟩ := v; (try simp only at hv))
    | (refine meanE_callF hω (wkI4 (out143_ok x _ hy hwf _ _ ?_ ?_) ?_ ?_ _) ?_ fun v hv => ?_; rotate_left 5; obtain ⟨w1, w2⟩ := v; (try simp only at hv))
    | (refine meanE_callF hω (wkI (out144_ok x _ hy hwf) _) ?_ fun v hv => ?_; rotate_left 1; obtain ⟨w1, w2⟩ := v; (try simp only at hv))
    | (refine meanE_callF hω (wkI (out147_ok x _ hy hwf) _) ?_ fun v hv => ?_; rotate_left 1; obtain ⟨w1, w2⟩ := v; (try simp only at hv))
    | (refine meanE_callF hω (wkI (out149_ok x _ hy hwf) _) ?_ fun v hv => ?_; rotate_left 1; obtain ⟨w1, w2⟩ := v; (try simp only at hv))
    | (refine meanE_callF hω (wkI (out152b_ok x _ hy hwf) _) ?_ fun v hv => ?_; rotate_left 1; obtain ⟨w1, w2⟩ := v; (try simp only at hv))
    | (refine meanE_callF hω (wkI (out155_ok x _ hy hwf) _) ?_ fun v hv => ?_; rotate_left 1; obtain ⟨w1, w2⟩ := v; (try simp only at hv))
    | (refine meanE_callF hω (wkI (out157_ok x _ hy hwf) _) ?_ fun v hv => ?_; rotate_left 1; obtain ⟨w1, w2⟩ := v; (try simp only at hv))
    | (refine meanE_callF hω (wkI (out160_ok x _ hy hwf) _) ?_ fun v hv => ?_; rotate_left 1; obtain ⟨w1, w2⟩ := v; (try simp only at hv))
    | (split <;> (rename_i h; simp only [h]; (try simp only [bIf_rec, pIf_rec, bNot_rec, hb, hi, hp, Int.ofNat_eq_natCast] at h); (try simp at h)))
    | (split <;> skip)
  all_goals first
    | trivial
    | omega
    | ((repeat' apply And.intro) <;> first | trivial | exact Int.NonNeg.mk _ | (simp; done))
    | (simp [Ent.und, undL, AV.und]; done)
    | (simp [FgtOk, undT, undEs, undEs.undRows, undL, AV.und]; done)
    | (unfold okI; refine ⟨fun h0 => ?_, fun h0 => ?_, fun h0 => ?_⟩ <;> first | omega | exact (hv (by omega)).2.2)
    | (intro _; exact ⟨rfl, (hvs (by omega)).2, fun j hj => hok j (by omega)⟩)
    | (intro hc; have := hvs hc; exfalso; simp_all; done)
    | (intro hc; have := hv hc; exfalso; simp_all; done)
    | ((conv => lhs; cbv); (conv => rhs; cbv); done)
    | ((conv => lhs; cbv); (conv => rhs; cbv); rfl)
    | ((conv => lhs; cbv); (conv => rhs; cbv); simp only [hi]; rfl)
    | (simp only [bIf_rec, pIf_rec, bNot_rec, hb, hi, hp, Int.ofNat_eq_natCast, oConds, St.ev]; simp [strip]; done)
   

end Go.Den.Z
namespace Go.Den
open Go.Proofs
theorem firstIdx_mem (g : Nat → Bool) (n : Nat) (h : 0 ≤ firstIdx g n) : ∃ i, i < n ∧ g i = true := by
  unfold firstIdx at h
  cases hf : (List.range n).find? g with
  | none => rw [hf] at h; simp at h
  | some i => exact ⟨i, List.mem_range.1 (List.mem_of_find?_eq_some hf), List.find?_some hf⟩
theorem withinF_addr (l : List Seg) (hs : ∀ (k : Nat) s, l[k]? = some s → s.Ok) (a : Int) (h : withinF l a 0 0 = true) : 0 ≤ a ∧ a ≤ 1048576 := by
  unfold withinF at h
  obtain ⟨i, hi, hg⟩ := firstIdx_mem _ _ (of_decide_eq_true h)
  cases hq : l[i]? with
  | none => rw [hq] at hg; simp at hg
  | some s =>
    rw [hq] at hg
    have ho := hs i s hq
    simp [segHas] at hg
    obtain ⟨⟨⟨_, h1⟩, h2⟩, h3⟩ := hg
    have h4 := ho.a0
    have h5 := ho.s1
    have h6 := ho.s2
    have h7 := ho.a1
    rw [show IntKind.wrap .i64 (s.addr + s.size) = s.addr + s.size from wrap_i64 (by omega), wrap_i64 (by omega)] at h3
    omega
end Go.Den
namespace Go.Den.Z
open Go.Proofs
theorem image_ok (x : Img) (y : RImg) (hy : y = x.r) (hwf : x.Wf) : ∃ c : Int × Int, (c.1 = 0 → c.2 = 0 ∧ x.Ok) ∧ PCalls P 54 [agg y.e] [] (fltV c.1 c.2) := by
  obtain ⟨c, h1, h2⟩ := imageValidate_ok x y hy hwf
  refine ⟨c, fun h => ?_, h2⟩
  obtain ⟨g0, gs, gi⟩ := h1 h
  have g8 := (gi 8 (by omega)).1 rfl
  have g9 := (gi 9 (by omega)).2.1 rfl
  have g10 := (gi 10 (by omega)).2.2 rfl
  refine ⟨g0, gs, ?_, ?_, g9, ?_⟩
  · intro k q hq
    have := g8 k (List.getElem?_eq_some_iff.1 hq).1 q hq
    exact ⟨by omega, by omega, by omega, by omega⟩
  · intro k a b ha hb
    have h := (g8 (k + 1) (List.getElem?_eq_some_iff.1 hb).1 b hb).1 a (by omega)
    rw [show (((k + 1 : Nat) : Int) - 1).toNat = k by omega] at h
    exact h ha
  · intro k v hv
    have h := g10 k (List.getElem?_eq_some_iff.1 hv).1 v hv
    exact ⟨⟨h.1, h.2.1⟩, withinF_addr x.segs gs v.addr h.2.2⟩
end Go.Den.Z
namespace Go.Den.Z
open Go.Proofs
theorem scopeCheck_ok (l : List Img) (rows : List (List CV)) (hrows : rows = l.map Img.e) (hl : LW Img.Wf l) : ∃ c : Int × Int, (c.1 = 0 → c.2 = 0 ∧ 1 ≤ l.length ∧ l.length ≤ 5 ∧ ∀ (k : Nat) q, l[k]? = some q → q.Ok) ∧ PCalls P 37 [.c (.sl rows)] [] (fltV c.1 c.2) := by
  have hll : rows.length = l.length := by rw [hrows]; simp
  have hln := hl.1
  obtain ⟨x, hx⟩ := counter 0
  obtain ⟨oi, ob, op, os, on, or_, om, hω⟩ := shields
  have hi : ∀ f, oi f = f () := hω.i
  have hb : ∀ f, ob f = f () := hω.b
  have hp : ∀ f, op f = f () := hω.p
  have hs : ∀ f, os f = f () := hω.s
  have hr : ∀ f, or_ f = f () := hω.r
  refine PCalls.runE hmix hω q_scope_Check ?_
  unfold c_scope_Check
  repeat' first
    | (refine meanE_id ?_; conv => arg 4; cbv)
    | (refine finFlt hω (by conv => lhs; cbv) ?_ (fun e he => by cases he) ?_ ?_)
    | (refine elemM hω hrows ?_ ?_ (fun _ => rfl) ?_ fun q hq => ?_; rotate_left 3; have hqw := hl.2 _ _ hq; have hio := image_ok q _ rfl hqw; rw [← Img.r_e]; generalize hyy : q.r = y at hio ⊢; obtain ⟨name, shared, segs, entry, exps, imps, fixs, thr, thrSize, inits, finis, needs, id, lines, unw, files, types, vars, places⟩ := y)
    | (refine callE hω hio (by (try (conv => cbv)); simp [undL, AV.und, agg]) (fun v => by simp [AV.und, undL, iV, bV, fltV, agg]) ?_ fun v hvs => ?_; rotate_left 1; obtain ⟨v1, v2⟩ := v; (try simp only at hvs))
    | (refine callQE hω (named_ok (l.take i) _ ?_ (by simp; omega) _) (by (try (conv => cbv)); simp [undL, AV.und, agg]) (fun v => by simp [AV.und, undL, iV, bV, fltV, agg]) ?_ fun v hv => ?_)
    | (refine meanE_loopF hω [0, 2, 15, 16, 17] l.length (fun i => ∀ q, l[i]? = some q → q.Ok) (fun i => [(17, iV (x i))]) ?_ (fun e he => by cases he) ?_ ?_ fun i hiN hok => ?_; rotate_left 3; have hxi : x i = i := by rw [hx]; omega)
    | (refine forF_next hok ?_ ?_ ?_ (fun e he => by cases he) ?_ ?_)
    | (refine roundG_out hω ?_ (fun h => by cases h) ?_)
    | (split <;> (rename_i h; simp only [h]; (try simp only [bIf_rec, pIf_rec, bNot_rec, hb, hi, hp, Int.ofNat_eq_natCast] at h); (try simp at h)))
    | (split <;> skip)
  all_goals first
    | trivial
    | omega
    | (intro hc; exact absurd hc (by decide))
    | (simp [FgtOk, undT, undEs, undEs.undRows, undL, AV.und]; done)
    | ((conv => lhs; cbv); (conv => rhs; cbv); simp only [hx 0]; rfl)
    | ((conv => lhs; cbv); (conv => rhs; cbv); simp only [hx 0])
    | ((conv => lhs; cbv); (conv => rhs; cbv); simp only [show (oi fun _ => IntKind.wrap .i64 (x i + 1)) = x (i + 1) from by rw [hi, hx, hx, wrap_i64 (by omega)]; push_cast; omega])
    | (rw [hr, hrows, hxi]; simp [List.map_take]; done)
    | (simp only [hp]; refine ⟨⟨⟨⟨?_, by omega, by omega, by simp; omega⟩, trivial⟩, trivial⟩, trivial⟩; intro i row hrow; rw [hrows] at hrow; simp at hrow; obtain ⟨q, _, rfl⟩ := hrow; rfl)
    | (intro q2 hq2; obtain rfl : q = q2 := Option.some.inj (hq.symm.trans (by rw [hxi]; exact hq2)); exact (hvs (by omega)).2)
    | (intro _; have h5 : rows.length ≠ 0 := fun h0 => (‹¬rows = [] ∧ _›).1 (List.length_eq_zero_iff.1 h0); exact ⟨rfl, by omega, by omega, fun k q hq => hok k (by have := (List.getElem?_eq_some_iff.1 hq).1; omega) q hq⟩)
    | (intro hc; have := hvs hc; exfalso; simp_all; done)
    | (simp only [bIf_rec, pIf_rec, bNot_rec, hb, hi, hp, Int.ofNat_eq_natCast, oConds, St.ev]; simp [strip]; done)
   

end Go.Den.Z
namespace Go.Den.Z
open Go.Proofs
structure MemI (l : List Pag) (n : Nat) (last : Int) : Prop where
  pg : ∀ (k : Nat) p, k < n → l[k]? = some p → p.Ok
  srt : ∀ (k : Nat) a b, k + 1 < n → l[k]? = some a → l[k + 1]? = some b → a.addr < b.addr
  lo : -1 ≤ last
  at' : ∀ (k : Nat) a, n = k + 1 → l[k]? = some a → a.addr = last
theorem MemI.next {l : List Pag} {n : Nat} {last : Int} (h : MemI l n last) {q : Pag} (hq : l[n]? = some q) (ho : q.Ok) (hl : last < q.addr) : MemI l (n + 1) q.addr := by
  refine ⟨fun k p hk hp => ?_, fun k a b hk ha hb => ?_, by have := ho.a; omega, fun k a hk ha => ?_⟩
  · by_cases hkn : k = n
    · subst hkn; rw [hq] at hp; cases hp; exact ho
    · exact h.pg k p (by omega) hp
  · by_cases hkn : k + 1 = n
    · rw [hkn, hq] at hb; cases hb; rw [h.at' k a hkn.symm ha]; exact hl
    · exact h.srt k a b (by omega) ha hb
  · obtain rfl : k = n := by omega
    rw [hq] at ha; cases ha; rfl
theorem memValidate_ok (l : List Pag) (rows : List (List CV)) (hrows : rows = l.map Pag.e) (hl : LW Pag.Wf l) : ∃ c : Int × Int, (c.1 = 0 → c.2 = 0 ∧ MemOk l) ∧ PCalls P 22 [.c (.sl rows)] [] (fltV c.1 c.2) := by
  have hll : rows.length = l.length := by rw [hrows]; simp
  have hln := hl.1
  obtain ⟨x, hx⟩ := counter 0
  obtain ⟨oi, ob, op, os, on, or_, om, hω⟩ := shields
  have hi : ∀ f, oi f = f () := hω.i
  have hb : ∀ f, ob f = f () := hω.b
  have hp : ∀ f, op f = f () := hω.p
  have hs : ∀ f, os f = f () := hω.s
  have hr : ∀ f, or_ f = f () := hω.r
  refine PCalls.runE hmix hω q_memory_Validate ?_
  unfold c_memory_Validate
  repeat' first
    | (refine meanE_id ?_; conv => arg 4; cbv)
    | (refine finFlt hω (by conv => lhs; cbv) ?_ (fun e he => by cases he) ?_ ?_)
    | (refine elemM hω hrows ?_ ?_ (fun _ => rfl) ?_ fun q hq => ?_; rotate_left 3; obtain ⟨pa, pr, pd⟩ := q; have hqw := hl.2 _ _ hq; simp only [Pag.e]; generalize hpd : pd.map eY = prd; have lpd : prd.length = pd.length := by rw [← hpd]; simp)
    | (refine meanE_loopS hω [2, 3, 11, 12, 13] (fun y : Nat × Int => [(13, iV (x y.1)), (3, iV y.2)]) (fun _ => []) (fun _ => []) (fun y => y.1 ≤ l.length ∧ MemI l y.1 y.2) (fun y => l.length - y.1) (0, -1) ?_ ?_ (fun e he => by cases he) ?_ ?_ fun y hy => ?_; rotate_left 4; obtain ⟨i, e⟩ := y; obtain ⟨hy1, hy2⟩ := hy; simp only at hy1 hy2; have hlo := hy2.lo; have hxi : x i = i := by rw [hx]; omega)
    | (refine roundG_next (i + 1, pa) ?_ ?_ ?_ (fun e he => by cases he) ?_ ?_)
    | (refine roundG_out hω ?_ (fun h => by cases h) ?_)
    | (split <;> (rename_i h; simp only [h]; (try simp only [bIf_rec, pIf_rec, bNot_rec, hb, hi, hp, Int.ofNat_eq_natCast] at h); (try simp at h)))
    | (split <;> skip)
  all_goals first
    | trivial
    | omega
    | (intro hc; exact absurd hc (by decide))
    | (simp [FgtOk, undT, undEs, undEs.undRows, undL, AV.und]; done)
    | ((conv => lhs; cbv); (conv => rhs; cbv); simp only [hx 0]; rfl)
    | ((conv => lhs; cbv); (conv => rhs; cbv); simp only [show (oi fun _ => IntKind.wrap .i64 (x i + 1)) = x (i + 1) from by rw [hi, hx, hx, wrap_i64 (by omega)]; push_cast; omega])
    | (show MemI l (i + 1) pa; have htm : pa % 256 = 0 := by rw [← Int.tmod_eq_emod_of_nonneg (by omega)]; omega
       refine hy2.next (q := ⟨pa, pr, pd⟩) (by rw [← hq, hxi]; simp) ⟨by simp only; exact htm, by simp only; omega, by simp only; omega, by simp only; omega⟩ (by simp only; omega))
    | (refine ⟨by simp only; omega, ?_⟩; show MemI l (i + 1) pa; have htm : pa % 256 = 0 := by rw [← Int.tmod_eq_emod_of_nonneg (by omega)]; omega
       refine hy2.next (q := ⟨pa, pr, pd⟩) (by rw [← hq, hxi]; simp) ⟨by simp only; exact htm, by simp only; omega, by simp only; omega, by simp only; omega⟩ (by simp only; omega))
    | (exact ⟨Nat.zero_le _, fun k p hk => by omega, fun k a b hk => by omega, by omega, fun k a hk => by omega⟩)
    | (intro _; exact ⟨rfl, by omega, fun k p hp => hy2.pg k p (by have := (List.getElem?_eq_some_iff.1 hp).1; omega) hp, fun k a b ha hb => hy2.srt k a b (by have := (List.getElem?_eq_some_iff.1 hb).1; omega) ha hb⟩)
    | (simp only [bIf_rec, pIf_rec, bNot_rec, hb, hi, hp, Int.ofNat_eq_natCast, oConds, St.ev]; simp [strip]; done)
    | ((repeat' apply And.intro) <;> first | trivial | (simp only [bIf_rec, pIf_rec, bNot_rec, hb, hi, hp, Int.ofNat_eq_natCast]; simp; done) | (simp only [bIf_rec, pIf_rec, bNot_rec, hb, hi, hp, Int.ofNat_eq_natCast]; simp; omega) | (simp only [bIf_rec, pIf_rec, bNot_rec, hb, hi, hp, Int.ofNat_eq_natCast, oConds, St.ev]; simp [strip]; done) | (simp only [bIf_rec, pIf_rec, bNot_rec, hb, hi, hp, Int.ofNat_eq_natCast]; grind))
   

end Go.Den.Z
