/-
  Part of the proof that FramesBeginAtTheCore returns true: contracts of the checks of an image.
  No condition.
-/
import Derived.Test.YtkimkplgmifckaaB1
set_option linter.unusedSimpArgs false
set_option linter.unusedVariables false
set_option maxRecDepth 20000
set_option maxHeartbeats 8000000
namespace Go.Den.Z
open Go.Proofs
theorem export_ok (x : Img) (y : RImg) (hy : y = x.r) (hwf : x.Wf) (k : Int) (h0 : 0 ≤ k) (h1 : k < x.exps.length) : ∃ c : Int, True ∧ PCalls P 69 [agg y.e, iV k] [] (iV c) := by
  obtain ⟨name, shared, segs, entry, exps, imps, fixs, thr, thrSize, inits, finis, needs, id, lines, unw, files, types, vars, places⟩ := y
  have hexps : exps = x.exps.map Exp.e := congrArg RImg.exps hy
  have lexps : exps.length = x.exps.length := by rw [hexps]; simp
  have wexps := hwf.exps.1
  have wsegs := hwf.segs.1
  obtain ⟨oi, ob, op, os, on, or_, om, hω⟩ := shields
  have hi : ∀ f, oi f = f () := hω.i
  have hb : ∀ f, ob f = f () := hω.b
  have hp : ∀ f, op f = f () := hω.p
  have hs : ∀ f, os f = f () := hω.s
  have hr : ∀ f, or_ f = f () := hω.r
  refine PCalls.runE hmix hω q_image_export ?_
  unfold c_image_export
  repeat' first
    | (refine meanE_id ?_; conv => arg 4; cbv)
    | (refine finInt hω (by conv => lhs; cbv) ?_ (fun e he => by cases he) ?_ ?_)
    | (refine callE hω (isName2_ok _ (by assumption)) (by (try (conv => cbv)); simp [undL, AV.und, agg]) (fun v => by simp [AV.und, undL, iV, bV, fltV, agg]) ?_ fun v hv => ?_)
    | (refine callGE hω (isName2_ok _ (by assumption)) (by (try (conv => cbv)); simp [undL, AV.und, agg]) (fun v => by simp [AV.und, undL, iV, bV, fltV, agg]) ?_ fun v hv => ?_)
    | (refine callQE hω (isName2_ok _ (by assumption)) (by (try (conv => cbv)); simp [undL, AV.und, agg]) (fun v => by simp [AV.und, undL, iV, bV, fltV, agg]) ?_ fun v hv => ?_)
    | (refine callE hω (version_ok _ (by assumption)) (by (try (conv => cbv)); simp [undL, AV.und, agg]) (fun v => by simp [AV.und, undL, iV, bV, fltV, agg]) ?_ fun v hv => ?_)
    | (refine callGE hω (version_ok _ (by assumption)) (by (try (conv => cbv)); simp [undL, AV.und, agg]) (fun v => by simp [AV.und, undL, iV, bV, fltV, agg]) ?_ fun v hv => ?_)
    | (refine callQE hω (version_ok _ (by assumption)) (by (try (conv => cbv)); simp [undL, AV.und, agg]) (fun v => by simp [AV.und, undL, iV, bV, fltV, agg]) ?_ fun v hv => ?_)
    | (refine callE hω (within_ok x _ hy (by omega) _ _ _) (by (try (conv => cbv)); simp [undL, AV.und, agg]) (fun v => by simp [AV.und, undL, iV, bV, fltV, agg]) ?_ fun v hv => ?_)
    | (refine callGE hω (within_ok x _ hy (by omega) _ _ _) (by (try (conv => cbv)); simp [undL, AV.und, agg]) (fun v => by simp [AV.und, undL, iV, bV, fltV, agg]) ?_ fun v hv => ?_)
    | (refine callQE hω (within_ok x _ hy (by omega) _ _ _) (by (try (conv => cbv)); simp [undL, AV.und, agg]) (fun v => by simp [AV.und, undL, iV, bV, fltV, agg]) ?_ fun v hv => ?_)
    | (refine callE hω (compareExports_ok ⟨_, _, _, _, _, _, _⟩ ⟨_, _, _, _, _, _, _⟩) (by (try (conv => cbv)); simp [undL, AV.und, agg]) (fun v => by simp [AV.und, undL, iV, bV, fltV, agg]) ?_ fun v hv => ?_)
    | (refine callGE hω (compareExports_ok ⟨_, _, _, _, _, _, _⟩ ⟨_, _, _, _, _, _, _⟩) (by (try (conv => cbv)); simp [undL, AV.und, agg]) (fun v => by simp [AV.und, undL, iV, bV, fltV, agg]) ?_ fun v hv => ?_)
    | (refine callQE hω (compareExports_ok ⟨_, _, _, _, _, _, _⟩ ⟨_, _, _, _, _, _, _⟩) (by (try (conv => cbv)); simp [undL, AV.und, agg]) (fun v => by simp [AV.und, undL, iV, bV, fltV, agg]) ?_ fun v hv => ?_)
    | (refine elemM hω hexps ?_ ?_ (fun _ => rfl) ?_ fun q hq => ?_; rotate_left 3; obtain ⟨en, ev, ed, ew, et, ea, es⟩ := q; have hqw := hwf.exps.2 _ _ hq; have hqn := hqw.name; have hqv := hqw.ver; simp only at hqn hqv; clear hq)
    | (split <;> (rename_i h; simp only [h]; (try simp only [bIf_rec, pIf_rec, bNot_rec, hb, hi, hp, Int.ofNat_eq_natCast] at h); (try simp at h)))
    | (split <;> skip)
  all_goals first | omega | (simp; done) | (simp only [hi]; (try rw [wrap_i64 (by omega)]); omega) | (simp only [bIf_rec, pIf_rec, bNot_rec, hb, hi, hp, Int.ofNat_eq_natCast]; simp; done) | (simp; omega) | (simp only [bIf_rec, pIf_rec, bNot_rec, hb, hi, hp, Int.ofNat_eq_natCast]; simp; omega) | trivial | (simp only [bIf_rec, pIf_rec, bNot_rec, hb, hi, hp, Int.ofNat_eq_natCast]; simp_all; done) | (simp only [bIf_rec, pIf_rec, bNot_rec, hb, hi, hp, Int.ofNat_eq_natCast]; simp_all; omega) | (simp only [bIf_rec, pIf_rec, bNot_rec, hb, hi, hp, Int.ofNat_eq_natCast]; grind) | (simp only [bIf_rec, pIf_rec, bNot_rec, hb, hi, hp, Int.ofNat_eq_natCast, oConds, St.ev]; simp [strip]; done) | (simp only [bIf_rec, pIf_rec, bNot_rec, hb, hi, hp, Int.ofNat_eq_natCast, oConds, St.ev]; simp [strip]; simp_all; done) | (exfalso; simp only [bIf_rec, bNot_rec] at *; simp_all; done) | skip

end Go.Den.Z
namespace Go.Den.Z
open Go.Proofs
theorem imported_ok (x : Img) (y : RImg) (hy : y = x.r) (hwf : x.Wf) (m : Imp) (hm : m.Wf) : ∃ c : Int, True ∧ PCalls P 72 [agg y.e, agg m.e] [] (iV c) := by
  obtain ⟨name, shared, segs, entry, exps, imps, fixs, thr, thrSize, inits, finis, needs, id, lines, unw, files, types, vars, places⟩ := y
  have wsegs := hwf.segs.1
  have hmn := hm.name
  have hmv := hm.ver
  have hm1 := hm.slot
  have hm2 := hm.copy
  have hm3 := hm.size
  clear hm
  obtain ⟨mn, mv, mw, ms, mc, mz⟩ := m
  simp only at hmn hmv hm1 hm2 hm3
  obtain ⟨oi, ob, op, os, on, or_, om, hω⟩ := shields
  have hi : ∀ f, oi f = f () := hω.i
  have hb : ∀ f, ob f = f () := hω.b
  have hp : ∀ f, op f = f () := hω.p
  have hs : ∀ f, os f = f () := hω.s
  have hr : ∀ f, or_ f = f () := hω.r
  refine PCalls.runE hmix hω q_image_imported ?_
  unfold c_image_imported
  repeat' first
    | (refine meanE_id ?_; conv => arg 4; cbv)
    | (refine finInt hω (by conv => lhs; cbv) ?_ (fun e he => by cases he) ?_ ?_)
    | (refine callE hω (isName2_ok _ (by assumption)) (by (try (conv => cbv)); simp [undL, AV.und, agg]) (fun v => by simp [AV.und, undL, iV, bV, fltV, agg]) ?_ fun v hv => ?_)
    | (refine callGE hω (isName2_ok _ (by assumption)) (by (try (conv => cbv)); simp [undL, AV.und, agg]) (fun v => by simp [AV.und, undL, iV, bV, fltV, agg]) ?_ fun v hv => ?_)
    | (refine callQE hω (isName2_ok _ (by assumption)) (by (try (conv => cbv)); simp [undL, AV.und, agg]) (fun v => by simp [AV.und, undL, iV, bV, fltV, agg]) ?_ fun v hv => ?_)
    | (refine callE hω (version_ok _ (by assumption)) (by (try (conv => cbv)); simp [undL, AV.und, agg]) (fun v => by simp [AV.und, undL, iV, bV, fltV, agg]) ?_ fun v hv => ?_)
    | (refine callGE hω (version_ok _ (by assumption)) (by (try (conv => cbv)); simp [undL, AV.und, agg]) (fun v => by simp [AV.und, undL, iV, bV, fltV, agg]) ?_ fun v hv => ?_)
    | (refine callQE hω (version_ok _ (by assumption)) (by (try (conv => cbv)); simp [undL, AV.und, agg]) (fun v => by simp [AV.und, undL, iV, bV, fltV, agg]) ?_ fun v hv => ?_)
    | (refine callE hω (within_ok x _ hy (by omega) _ _ _) (by (try (conv => cbv)); simp [undL, AV.und, agg]) (fun v => by simp [AV.und, undL, iV, bV, fltV, agg]) ?_ fun v hv => ?_)
    | (refine callGE hω (within_ok x _ hy (by omega) _ _ _) (by (try (conv => cbv)); simp [undL, AV.und, agg]) (fun v => by simp [AV.und, undL, iV, bV, fltV, agg]) ?_ fun v hv => ?_)
    | (refine callQE hω (within_ok x _ hy (by omega) _ _ _) (by (try (conv => cbv)); simp [undL, AV.und, agg]) (fun v => by simp [AV.und, undL, iV, bV, fltV, agg]) ?_ fun v hv => ?_)
    | (split <;> (rename_i h; simp only [h]; (try simp only [bIf_rec, pIf_rec, bNot_rec, hb, hi, hp, Int.ofNat_eq_natCast] at h); (try simp at h)))
    | (split <;> skip)
  all_goals first | omega | (simp; done) | (simp only [hi]; (try rw [wrap_i64 (by omega)]); omega) | (simp only [bIf_rec, pIf_rec, bNot_rec, hb, hi, hp, Int.ofNat_eq_natCast]; simp; done) | (simp; omega) | (simp only [bIf_rec, pIf_rec, bNot_rec, hb, hi, hp, Int.ofNat_eq_natCast]; simp; omega) | trivial | (simp only [bIf_rec, pIf_rec, bNot_rec, hb, hi, hp, Int.ofNat_eq_natCast]; simp_all; done) | (simp only [bIf_rec, pIf_rec, bNot_rec, hb, hi, hp, Int.ofNat_eq_natCast]; simp_all; omega) | (simp only [bIf_rec, pIf_rec, bNot_rec, hb, hi, hp, Int.ofNat_eq_natCast, oConds, St.ev]; simp [strip]; done) | (simp only [bIf_rec, pIf_rec, bNot_rec, hb, hi, hp, Int.ofNat_eq_natCast, oConds, St.ev]; simp [strip]; simp_all; done) | (simp only [bIf_rec, pIf_rec, bNot_rec, hb, hi, hp, Int.ofNat_eq_natCast]; grind) | (exfalso; simp only [bIf_rec, bNot_rec] at *; simp_all; done) | (exfalso; rename_i heq; simp only [bIf_rec, pIf_rec, bNot_rec, hb, hi, hp, Int.ofNat_eq_natCast] at heq; simp at heq; omega) | (exfalso; rename_i heq; simp only [bIf_rec, pIf_rec, bNot_rec, hb, hi, hp, Int.ofNat_eq_natCast] at heq; simp at heq; simp_all; omega) | (exfalso; rename_i heq; simp only [bIf_rec, pIf_rec, bNot_rec, hb, hi, hp, Int.ofNat_eq_natCast] at heq; grind) | skip

end Go.Den.Z
namespace Go.Den.Z
open Go.Proofs
theorem fixup_ok (x : Img) (y : RImg) (hy : y = x.r) (hwf : x.Wf) (k : Int) (h0 : 0 ≤ k) (h1 : k < x.fixs.length) : ∃ c : Int, True ∧ PCalls P 75 [agg y.e, iV k] [] (iV c) := by
  obtain ⟨name, shared, segs, entry, exps, imps, fixs, thr, thrSize, inits, finis, needs, id, lines, unw, files, types, vars, places⟩ := y
  have hfixs : fixs = x.fixs.map Fix.e := congrArg RImg.fixs hy
  have lfixs : fixs.length = x.fixs.length := by rw [hfixs]; simp
  have wfixs := hwf.fixs.1
  have himps : imps = x.imps.map Imp.e := congrArg RImg.imps hy
  have limps : imps.length = x.imps.length := by rw [himps]; simp
  have wimps := hwf.imps.1
  have wsegs := hwf.segs.1
  obtain ⟨oi, ob, op, os, on, or_, om, hω⟩ := shields
  have hi : ∀ f, oi f = f () := hω.i
  have hb : ∀ f, ob f = f () := hω.b
  have hp : ∀ f, op f = f () := hω.p
  have hs : ∀ f, os f = f () := hω.s
  have hr : ∀ f, or_ f = f () := hω.r
  refine PCalls.runE hmix hω q_image_fixup ?_
  unfold c_image_fixup
  repeat' first
    | (refine meanE_id ?_; conv => arg 4; cbv)
    | (refine finInt hω (by conv => lhs; cbv) ?_ (fun e he => by cases he) ?_ ?_)
    | (refine callE hω (within_ok x _ hy (by omega) _ _ _) (by (try (conv => cbv)); simp [undL, AV.und, agg]) (fun v => by simp [AV.und, undL, iV, bV, fltV, agg]) ?_ fun v hv => ?_)
    | (refine callGE hω (within_ok x _ hy (by omega) _ _ _) (by (try (conv => cbv)); simp [undL, AV.und, agg]) (fun v => by simp [AV.und, undL, iV, bV, fltV, agg]) ?_ fun v hv => ?_)
    | (refine callQE hω (within_ok x _ hy (by omega) _ _ _) (by (try (conv => cbv)); simp [undL, AV.und, agg]) (fun v => by simp [AV.und, undL, iV, bV, fltV, agg]) ?_ fun v hv => ?_)
    | (refine elemM hω hfixs ?_ ?_ (fun _ => rfl) ?_ fun q hq => ?_; rotate_left 3; obtain ⟨fa, fk, fi, fd⟩ := q; have hqw := hwf.fixs.2 _ _ hq; have hq1 := hqw.addr; simp only [i64r] at hq1; clear hq)
    | (split <;> (rename_i h; simp only [h]; (try simp only [bIf_rec, pIf_rec, bNot_rec, hb, hi, hp, Int.ofNat_eq_natCast] at h); (try simp at h)))
    | (split <;> skip)
  all_goals first | omega | (simp; done) | (simp only [hi]; (try rw [wrap_i64 (by omega)]); omega) | (simp only [bIf_rec, pIf_rec, bNot_rec, hb, hi, hp, Int.ofNat_eq_natCast]; simp; done) | (simp; omega) | (simp only [bIf_rec, pIf_rec, bNot_rec, hb, hi, hp, Int.ofNat_eq_natCast]; simp; omega) | trivial | (simp only [bIf_rec, pIf_rec, bNot_rec, hb, hi, hp, Int.ofNat_eq_natCast]; simp_all; done) | (simp only [bIf_rec, pIf_rec, bNot_rec, hb, hi, hp, Int.ofNat_eq_natCast]; simp_all; omega) | (simp only [bIf_rec, pIf_rec, bNot_rec, hb, hi, hp, Int.ofNat_eq_natCast, oConds, St.ev]; simp [strip]; done) | (simp only [bIf_rec, pIf_rec, bNot_rec, hb, hi, hp, Int.ofNat_eq_natCast, oConds, St.ev]; simp [strip]; simp_all; done) | (simp only [bIf_rec, pIf_rec, bNot_rec, hb, hi, hp, Int.ofNat_eq_natCast]; grind) | (exfalso; simp only [bIf_rec, bNot_rec] at *; simp_all; done) | (exfalso; rename_i heq; simp only [bIf_rec, pIf_rec, bNot_rec, hb, hi, hp, Int.ofNat_eq_natCast] at heq; simp at heq; omega) | (exfalso; rename_i heq; simp only [bIf_rec, pIf_rec, bNot_rec, hb, hi, hp, Int.ofNat_eq_natCast] at heq; simp at heq; simp_all; omega) | (exfalso; rename_i heq; simp only [bIf_rec, pIf_rec, bNot_rec, hb, hi, hp, Int.ofNat_eq_natCast] at heq; grind) | skip

end Go.Den.Z
namespace Go.Den.Z
open Go.Proofs
theorem variable_ok (x : Img) (y : RImg) (hy : y = x.r) (hwf : x.Wf) (k : Int) (h0 : 0 ≤ k) (h1 : k < x.vars.length) : ∃ c : Int, (c = 0 → ∀ v, x.vars[k.toNat]? = some v → 0 ≤ v.ty ∧ v.ty < x.types.length ∧ withinF x.segs v.addr 0 0 = true) ∧ PCalls P 93 [agg y.e, iV k] [] (iV c) := by
  obtain ⟨name, shared, segs, entry, exps, imps, fixs, thr, thrSize, inits, finis, needs, id, lines, unw, files, types, vars, places⟩ := y
  have hvars : vars = x.vars.map Var.e := congrArg RImg.vars hy
  have lvars : vars.length = x.vars.length := by rw [hvars]; simp
  have wvars := hwf.vars.1
  have htypes : types = x.types.map Ty.e := congrArg RImg.types hy
  have ltypes : types.length = x.types.length := by rw [htypes]; simp
  have wtypes := hwf.types.1
  have wsegs := hwf.segs.1
  obtain ⟨oi, ob, op, os, on, or_, om, hω⟩ := shields
  have hi : ∀ f, oi f = f () := hω.i
  have hb : ∀ f, ob f = f () := hω.b
  have hp : ∀ f, op f = f () := hω.p
  have hs : ∀ f, os f = f () := hω.s
  have hr : ∀ f, or_ f = f () := hω.r
  refine PCalls.runE hmix hω q_image_variable ?_
  unfold c_image_variable
  repeat' first
    | (refine meanE_id ?_; conv => arg 4; cbv)
    | (refine finInt hω (by conv => lhs; cbv) ?_ (fun e he => by cases he) ?_ ?_)
    | (refine callE hω (isName2_ok _ (by assumption)) (by (try (conv => cbv)); simp [undL, AV.und, agg]) (fun v => by simp [AV.und, undL, iV, bV, fltV, agg]) ?_ fun v hv => ?_)
    | (refine callGE hω (isName2_ok _ (by assumption)) (by (try (conv => cbv)); simp [undL, AV.und, agg]) (fun v => by simp [AV.und, undL, iV, bV, fltV, agg]) ?_ fun v hv => ?_)
    | (refine callQE hω (isName2_ok _ (by assumption)) (by (try (conv => cbv)); simp [undL, AV.und, agg]) (fun v => by simp [AV.und, undL, iV, bV, fltV, agg]) ?_ fun v hv => ?_)
    | (refine callE hω (within_ok x _ hy (by omega) _ _ _) (by (try (conv => cbv)); simp [undL, AV.und, agg]) (fun v => by simp [AV.und, undL, iV, bV, fltV, agg]) ?_ fun v hv => ?_)
    | (refine callGE hω (within_ok x _ hy (by omega) _ _ _) (by (try (conv => cbv)); simp [undL, AV.und, agg]) (fun v => by simp [AV.und, undL, iV, bV, fltV, agg]) ?_ fun v hv => ?_)
    | (refine callQE hω (within_ok x _ hy (by omega) _ _ _) (by (try (conv => cbv)); simp [undL, AV.und, agg]) (fun v => by simp [AV.und, undL, iV, bV, fltV, agg]) ?_ fun v hv => ?_)
    | (refine callE hω (compareVariables_ok ⟨_, _, _⟩ ⟨_, _, _⟩) (by (try (conv => cbv)); simp [undL, AV.und, agg]) (fun v => by simp [AV.und, undL, iV, bV, fltV, agg]) ?_ fun v hv => ?_)
    | (refine callGE hω (compareVariables_ok ⟨_, _, _⟩ ⟨_, _, _⟩) (by (try (conv => cbv)); simp [undL, AV.und, agg]) (fun v => by simp [AV.und, undL, iV, bV, fltV, agg]) ?_ fun v hv => ?_)
    | (refine callQE hω (compareVariables_ok ⟨_, _, _⟩ ⟨_, _, _⟩) (by (try (conv => cbv)); simp [undL, AV.und, agg]) (fun v => by simp [AV.und, undL, iV, bV, fltV, agg]) ?_ fun v hv => ?_)
    | (refine callE hω (when_ok _ _) (by (try (conv => cbv)); simp [undL, AV.und, agg]) (fun v => by simp [AV.und, undL, iV, bV, fltV, agg]) ?_ fun v hv => ?_)
    | (refine callGE hω (when_ok _ _) (by (try (conv => cbv)); simp [undL, AV.und, agg]) (fun v => by simp [AV.und, undL, iV, bV, fltV, agg]) ?_ fun v hv => ?_)
    | (refine callQE hω (when_ok _ _) (by (try (conv => cbv)); simp [undL, AV.und, agg]) (fun v => by simp [AV.und, undL, iV, bV, fltV, agg]) ?_ fun v hv => ?_)
    | (refine elemM hω hvars ?_ ?_ (fun _ => rfl) ?_ fun q hq => ?_; rotate_left 3; obtain ⟨vn, va, vt⟩ := q; have hqw := hwf.vars.2 _ _ hq; have hqn := hqw.name; simp only at hqn)
    | (split <;> (rename_i h; simp only [h]; (try simp only [bIf_rec, pIf_rec, bNot_rec, hb, hi, hp, Int.ofNat_eq_natCast] at h); (try simp at h)))
    | (split <;> skip)
  all_goals first | omega | (simp; done) | (simp only [hi]; (try rw [wrap_i64 (by omega)]); omega) | (simp only [bIf_rec, pIf_rec, bNot_rec, hb, hi, hp, Int.ofNat_eq_natCast]; simp; done) | (simp; omega) | (simp only [bIf_rec, pIf_rec, bNot_rec, hb, hi, hp, Int.ofNat_eq_natCast]; simp; omega) | (intro hc v hv2; simp at hc; done) | (intro hc v hv2; have h3 := ‹x.vars[k.toNat]? = some _›; rw [h3] at hv2; cases hv2; simp only [ltypes] at *; simp_all; done) | (intro hc v hv2; have h3 := ‹x.vars[k.toNat]? = some _›; rw [h3] at hv2; cases hv2; simp only [ltypes] at *; grind) | trivial | (simp only [bIf_rec, pIf_rec, bNot_rec, hb, hi, hp, Int.ofNat_eq_natCast]; simp_all; done) | (simp only [bIf_rec, pIf_rec, bNot_rec, hb, hi, hp, Int.ofNat_eq_natCast]; simp_all; omega) | (simp only [bIf_rec, pIf_rec, bNot_rec, hb, hi, hp, Int.ofNat_eq_natCast, oConds, St.ev]; simp [strip]; done) | (simp only [bIf_rec, pIf_rec, bNot_rec, hb, hi, hp, Int.ofNat_eq_natCast, oConds, St.ev]; simp [strip]; simp_all; done) | (simp only [bIf_rec, pIf_rec, bNot_rec, hb, hi, hp, Int.ofNat_eq_natCast]; grind) | (exfalso; simp only [bIf_rec, bNot_rec] at *; simp_all; done) | (exfalso; rename_i heq; simp only [bIf_rec, pIf_rec, bNot_rec, hb, hi, hp, Int.ofNat_eq_natCast] at heq; simp at heq; omega) | (exfalso; rename_i heq; simp only [bIf_rec, pIf_rec, bNot_rec, hb, hi, hp, Int.ofNat_eq_natCast] at heq; simp at heq; simp_all; omega) | (exfalso; rename_i heq; simp only [bIf_rec, pIf_rec, bNot_rec, hb, hi, hp, Int.ofNat_eq_natCast] at heq; grind) | skip

end Go.Den.Z
namespace Go.Den.Z
open Go.Proofs
theorem placed_ok (x : Img) (y : RImg) (hy : y = x.r) (hwf : x.Wf) (k : Int) (h0 : 0 ≤ k) (h1 : k < x.places.length) : ∃ c : Int, True ∧ PCalls P 96 [agg y.e, iV k] [] (iV c) := by
  obtain ⟨name, shared, segs, entry, exps, imps, fixs, thr, thrSize, inits, finis, needs, id, lines, unw, files, types, vars, places⟩ := y
  have hplaces : places = x.places.map Plc.e := congrArg RImg.places hy
  have lplaces : places.length = x.places.length := by rw [hplaces]; simp
  have wplaces := hwf.places.1
  have wsegs := hwf.segs.1
  obtain ⟨oi, ob, op, os, on, or_, om, hω⟩ := shields
  have hi : ∀ f, oi f = f () := hω.i
  have hb : ∀ f, ob f = f () := hω.b
  have hp : ∀ f, op f = f () := hω.p
  have hs : ∀ f, os f = f () := hω.s
  have hr : ∀ f, or_ f = f () := hω.r
  refine PCalls.runE hmix hω q_image_placed ?_
  unfold c_image_placed
  repeat' first
    | (refine meanE_id ?_; conv => arg 4; cbv)
    | (refine finInt hω (by conv => lhs; cbv) ?_ (fun e he => by cases he) ?_ ?_)
    | (refine callE hω (within_ok x _ hy (by omega) _ _ _) (by (try (conv => cbv)); simp [undL, AV.und, agg]) (fun v => by simp [AV.und, undL, iV, bV, fltV, agg]) ?_ fun v hv => ?_)
    | (refine callGE hω (within_ok x _ hy (by omega) _ _ _) (by (try (conv => cbv)); simp [undL, AV.und, agg]) (fun v => by simp [AV.und, undL, iV, bV, fltV, agg]) ?_ fun v hv => ?_)
    | (refine callQE hω (within_ok x _ hy (by omega) _ _ _) (by (try (conv => cbv)); simp [undL, AV.und, agg]) (fun v => by simp [AV.und, undL, iV, bV, fltV, agg]) ?_ fun v hv => ?_)
    | (refine callE hω (when_ok _ _) (by (try (conv => cbv)); simp [undL, AV.und, agg]) (fun v => by simp [AV.und, undL, iV, bV, fltV, agg]) ?_ fun v hv => ?_)
    | (refine callGE hω (when_ok _ _) (by (try (conv => cbv)); simp [undL, AV.und, agg]) (fun v => by simp [AV.und, undL, iV, bV, fltV, agg]) ?_ fun v hv => ?_)
    | (refine callQE hω (when_ok _ _) (by (try (conv => cbv)); simp [undL, AV.und, agg]) (fun v => by simp [AV.und, undL, iV, bV, fltV, agg]) ?_ fun v hv => ?_)
    | (refine elemM hω hplaces ?_ ?_ (fun _ => rfl) ?_ fun q hq => ?_; rotate_left 3; obtain ⟨pa, ps, pm, pc, po⟩ := q; have hqw := hwf.places.2 _ _ hq; clear hq)
    | (split <;> (rename_i h; simp only [h]; (try simp only [bIf_rec, pIf_rec, bNot_rec, hb, hi, hp, Int.ofNat_eq_natCast] at h); (try simp at h)))
    | (split <;> skip)
  all_goals first | omega | (simp; done) | (simp only [hi]; (try rw [wrap_i64 (by omega)]); omega) | (simp only [bIf_rec, pIf_rec, bNot_rec, hb, hi, hp, Int.ofNat_eq_natCast]; simp; done) | (simp; omega) | (simp only [bIf_rec, pIf_rec, bNot_rec, hb, hi, hp, Int.ofNat_eq_natCast]; simp; omega) | trivial | (simp only [bIf_rec, pIf_rec, bNot_rec, hb, hi, hp, Int.ofNat_eq_natCast]; simp_all; done) | (simp only [bIf_rec, pIf_rec, bNot_rec, hb, hi, hp, Int.ofNat_eq_natCast]; simp_all; omega) | (simp only [bIf_rec, pIf_rec, bNot_rec, hb, hi, hp, Int.ofNat_eq_natCast, oConds, St.ev]; simp [strip]; done) | (simp only [bIf_rec, pIf_rec, bNot_rec, hb, hi, hp, Int.ofNat_eq_natCast, oConds, St.ev]; simp [strip]; simp_all; done) | (simp only [bIf_rec, pIf_rec, bNot_rec, hb, hi, hp, Int.ofNat_eq_natCast]; grind) | (exfalso; simp only [bIf_rec, bNot_rec] at *; simp_all; done) | (exfalso; rename_i heq; simp only [bIf_rec, pIf_rec, bNot_rec, hb, hi, hp, Int.ofNat_eq_natCast] at heq; simp at heq; omega) | (exfalso; rename_i heq; simp only [bIf_rec, pIf_rec, bNot_rec, hb, hi, hp, Int.ofNat_eq_natCast] at heq; simp at heq; simp_all; omega) | (exfalso; rename_i heq; simp only [bIf_rec, pIf_rec, bNot_rec, hb, hi, hp, Int.ofNat_eq_natCast] at heq; grind) | skip

end Go.Den.Z
namespace Go.Den.Z
open Go.Proofs
theorem each_ok (E0 : Ent) (hE0 : Ent.und 1 E0) (n most list : Int) (N : Nat) (hn : n = N) (hN : N < 9000000000000000) (f : FuncId) (caps : List AV) (hcaps : undL 1 caps) (G : Nat → Prop)
    (hcode : ∀ k : Nat, k < N → ∃ c : Int, (c = 0 → G k) ∧ PCalls P f (iV k :: caps) [E0] (iV c)) : ∃ v : Int × Int, (v.1 = 0 → v.2 = 0 ∧ N ≤ most ∧ ∀ k : Nat, k < N → G k) ∧ PCalls P 67 [iV n, iV most, iV list, .fn f caps] [E0] (fltV v.1 v.2) := by
  obtain ⟨oi, ob, op, os, on, or_, om, hω⟩ := shields
  have hi : ∀ f, oi f = f () := hω.i
  have hb : ∀ f, ob f = f () := hω.b
  have hp : ∀ f, op f = f () := hω.p
  have hs : ∀ f, os f = f () := hω.s
  have hr : ∀ f, or_ f = f () := hω.r
  obtain ⟨x, hx⟩ := counter 0
  have hB : ∀ e ∈ [E0], Ent.und 1 e := by
    intro e he
    simp at he
    subst he; exact hE0
  refine PCalls.runE hmix hω q_image_each ?_
  unfold c_image_each
  repeat' first
    | (refine meanE_id ?_; conv => arg 4; cbv)
    | (refine finFlt hω (by (conv => lhs; cbv); all_goals rfl) ?_ hB ?_ ?_)
    | (refine meanE_loopF hω [2, 3, 8, 17, 18] N G (fun i => [(18, iV (x i))]) ?_ hB ?_ ?_ fun i hiN hok => ?_; rotate_left 3; have hxi : x i = i := by rw [hx]; omega)
    | (refine forF_next hok ?_ ?_ ?_ hB ?_ ?_)
    | (refine roundG_out hω ?_ (fun h => by cases h) ?_)
    | (refine meanE_callF hω (G := fun c : Int => c = 0 → G i) (rv := iV) ?_ ?_ fun c hc => ?_)
    | (split <;> (rename_i h; simp only [h]; (try simp only [bIf_rec, pIf_rec, bNot_rec, hb, hi, hp, Int.ofNat_eq_natCast] at h); (try simp at h)))
    | (split <;> skip)
  all_goals first
    | trivial
    | omega
    | (have h2 := undL_le (show 1 ≤ 2 by omega) hcaps; simp [FgtOk, undT, undEs, undEs.undRows, undL, AV.und, h2]; done)
    | (intro hc; simp at hc; done)
    | (intro hc; exact ⟨rfl, by omega, fun k hk => hok k (by omega)⟩)
    | (intro hc2; exact absurd hc2 (by assumption))
    | ((conv => lhs; cbv); (conv => rhs; cbv); simp only [hx 0]; rfl)
    | ((conv => lhs; cbv); (conv => rhs; cbv); simp only [show (oi fun _ => IntKind.wrap .i64 (x i + 1)) = x (i + 1) from by rw [hi, hx, hx, wrap_i64 (by omega)]; push_cast; omega])
    | (obtain ⟨c, h1, h2⟩ := hcode i (by omega); exact ⟨c, h1, by rw [hxi]; exact h2.weaken (X := [_]) ⟨trivial, hcaps⟩ trivial hB⟩)
    | (simp only [bIf_rec, pIf_rec, bNot_rec, hb, hi, hp, Int.ofNat_eq_natCast]; simp; done)
    | (exact hc (by assumption))
    | (exact hc (by omega))
    | (simp only [bIf_rec, pIf_rec, bNot_rec, hb, hi, hp, Int.ofNat_eq_natCast, oConds, St.ev]; simp [strip]; done)
    | skip

end Go.Den.Z
namespace Go.Den.Z
open Go.Proofs
abbrev imgE (y : RImg) : Ent := .mem 19 [y.e.map .c]
theorem imgE_und (y : RImg) : ∀ e ∈ [imgE y], Ent.und 1 e := by
  intro e he
  simp at he
  subst he
  simp [imgE, Ent.und, undL, AV.und, RImg.e]

def UnwFact (x : Img) (k : Nat) : Prop := ∀ q, x.unw[k]? = some q → -1 ≤ q.reg ∧ q.reg ≤ 7 ∧ 0 ≤ q.off ∧ q.off ≤ 1048576 ∧ -1048576 ≤ q.add ∧ q.add ≤ 1048576 ∧ -1048576 ≤ q.saved ∧ q.saved ≤ 0

theorem in134_ok (x : Img) (y : RImg) (hy : y = x.r) (hwf : x.Wf) (k : Int) (hk0 : 0 ≤ k) (hk : k < x.exps.length) : ∃ c : Int, (c = 0 → True) ∧ PCalls P 68 [iV k, .op 0 0 0] [imgE y] (iV c) := by
  obtain ⟨name, shared, segs, entry, exps, imps, fixs, thr, thrSize, inits, finis, needs, id, lines, unw, files, types, vars, places⟩ := y
  have hexps : exps = x.exps.map Exp.e := congrArg RImg.exps hy
  have lexps : exps.length = x.exps.length := by rw [hexps]; simp
  have wexps := hwf.exps.1
  have wsegs := hwf.segs.1
  have hB : ∀ e ∈ [imgE ⟨name, shared, segs, entry, exps, imps, fixs, thr, thrSize, inits, finis, needs, id, lines, unw, files, types, vars, places⟩], Ent.und 1 e := imgE_und _
  unfold imgE at *
  obtain ⟨oi, ob, op, os, on, or_, om, hω⟩ := shields
  have hi : ∀ f, oi f = f () := hω.i
  have hb : ∀ f, ob f = f () := hω.b
  have hp : ∀ f, op f = f () := hω.p
  have hs : ∀ f, os f = f () := hω.s
  have hr : ∀ f, or_ f = f () := hω.r
  refine PCalls.runE hmix hω q_image_Validate_2_1 ?_
  unfold c_image_Validate_2_1
  repeat' first
    | (refine meanE_id ?_; conv => arg 4; cbv)
    | (refine finInt hω (by (conv => lhs; cbv); all_goals rfl) ?_ hB ?_ ?_)
    | (refine callE hω (export_ok x _ hy hwf _ hk0 hk) (by (try (conv => cbv)); simp [undL, AV.und, agg]) (fun v => by simp [AV.und, undL, iV, bV, fltV, agg]) ?_ fun v hv => ?_)
    | (refine callGE hω (export_ok x _ hy hwf _ hk0 hk) (by (try (conv => cbv)); simp [undL, AV.und, agg]) (fun v => by simp [AV.und, undL, iV, bV, fltV, agg]) ?_ fun v hv => ?_)
    | (refine callQE hω (export_ok x _ hy hwf _ hk0 hk) (by (try (conv => cbv)); simp [undL, AV.und, agg]) (fun v => by simp [AV.und, undL, iV, bV, fltV, agg]) ?_ fun v hv => ?_)
    | (split <;> (rename_i h; simp only [h]; (try simp only [bIf_rec, pIf_rec, bNot_rec, hb, hi, hp, Int.ofNat_eq_natCast] at h); (try simp at h)))
    | (split <;> skip)
  all_goals first | omega | (simp; done) | (simp only [hi]; (try rw [wrap_i64 (by omega)]); omega) | (simp only [bIf_rec, pIf_rec, bNot_rec, hb, hi, hp, Int.ofNat_eq_natCast]; simp; done) | (simp; omega) | (simp only [bIf_rec, pIf_rec, bNot_rec, hb, hi, hp, Int.ofNat_eq_natCast]; simp; omega) | (intro hc; assumption) | (intro hc; exact hv hc) | trivial | (simp only [bIf_rec, pIf_rec, bNot_rec, hb, hi, hp, Int.ofNat_eq_natCast]; simp_all; done) | (simp only [bIf_rec, pIf_rec, bNot_rec, hb, hi, hp, Int.ofNat_eq_natCast]; simp_all; omega) | (simp only [bIf_rec, pIf_rec, bNot_rec, hb, hi, hp, Int.ofNat_eq_natCast, oConds, St.ev]; simp [strip]; done) | (simp only [bIf_rec, pIf_rec, bNot_rec, hb, hi, hp, Int.ofNat_eq_natCast, oConds, St.ev]; simp [strip]; simp_all; done) | (simp only [bIf_rec, pIf_rec, bNot_rec, hb, hi, hp, Int.ofNat_eq_natCast]; grind) | (exfalso; simp only [bIf_rec, bNot_rec] at *; simp_all; done) | (exfalso; rename_i heq; simp only [bIf_rec, pIf_rec, bNot_rec, hb, hi, hp, Int.ofNat_eq_natCast] at heq; simp at heq; omega) | (exfalso; rename_i heq; simp only [bIf_rec, pIf_rec, bNot_rec, hb, hi, hp, Int.ofNat_eq_natCast] at heq; simp at heq; simp_all; omega) | (exfalso; rename_i heq; simp only [bIf_rec, pIf_rec, bNot_rec, hb, hi, hp, Int.ofNat_eq_natCast] at heq; grind) | skip

theorem in137_ok (x : Img) (y : RImg) (hy : y = x.r) (hwf : x.Wf) (k : Int) (hk0 : 0 ≤ k) (hk : k < x.imps.length) : ∃ c : Int, (c = 0 → True) ∧ PCalls P 71 [iV k, .op 0 0 0] [imgE y] (iV c) := by
  obtain ⟨name, shared, segs, entry, exps, imps, fixs, thr, thrSize, inits, finis, needs, id, lines, unw, files, types, vars, places⟩ := y
  have himps : imps = x.imps.map Imp.e := congrArg RImg.imps hy
  have limps : imps.length = x.imps.length := by rw [himps]; simp
  have wimps := hwf.imps.1
  have wsegs := hwf.segs.1
  have hB : ∀ e ∈ [imgE ⟨name, shared, segs, entry, exps, imps, fixs, thr, thrSize, inits, finis, needs, id, lines, unw, files, types, vars, places⟩], Ent.und 1 e := imgE_und _
  unfold imgE at *
  obtain ⟨oi, ob, op, os, on, or_, om, hω⟩ := shields
  have hi : ∀ f, oi f = f () := hω.i
  have hb : ∀ f, ob f = f () := hω.b
  have hp : ∀ f, op f = f () := hω.p
  have hs : ∀ f, os f = f () := hω.s
  have hr : ∀ f, or_ f = f () := hω.r
  refine PCalls.runE hmix hω q_image_Validate_3_1 ?_
  unfold c_image_Validate_3_1
  repeat' first
    | (refine meanE_id ?_; conv => arg 4; cbv)
    | (refine finInt hω (by (conv => lhs; cbv); all_goals rfl) ?_ hB ?_ ?_)
    | (refine callE hω (imported_ok x _ hy hwf ⟨_, _, _, _, _, _⟩ (by assumption)) (by (try (conv => cbv)); simp [undL, AV.und, agg]) (fun v => by simp [AV.und, undL, iV, bV, fltV, agg]) ?_ fun v hv => ?_)
    | (refine callGE hω (imported_ok x _ hy hwf ⟨_, _, _, _, _, _⟩ (by assumption)) (by (try (conv => cbv)); simp [undL, AV.und, agg]) (fun v => by simp [AV.und, undL, iV, bV, fltV, agg]) ?_ fun v hv => ?_)
    | (refine callQE hω (imported_ok x _ hy hwf ⟨_, _, _, _, _, _⟩ (by assumption)) (by (try (conv => cbv)); simp [undL, AV.und, agg]) (fun v => by simp [AV.und, undL, iV, bV, fltV, agg]) ?_ fun v hv => ?_)
    | (refine elemM hω himps ?_ ?_ (fun _ => rfl) ?_ fun q hq => ?_; rotate_left 3; obtain ⟨mn, mv, mw, ms, mc, mz⟩ := q; have hqw := hwf.imps.2 _ _ hq; clear hq)
    | (split <;> (rename_i h; simp only [h]; (try simp only [bIf_rec, pIf_rec, bNot_rec, hb, hi, hp, Int.ofNat_eq_natCast] at h); (try simp at h)))
    | (split <;> skip)
  all_goals first | omega | (simp; done) | (simp only [hi]; (try rw [wrap_i64 (by omega)]); omega) | (simp only [bIf_rec, pIf_rec, bNot_rec, hb, hi, hp, Int.ofNat_eq_natCast]; simp; done) | (simp; omega) | (simp only [bIf_rec, pIf_rec, bNot_rec, hb, hi, hp, Int.ofNat_eq_natCast]; simp; omega) | (intro hc; assumption) | (intro hc; exact hv hc) | trivial | (simp only [bIf_rec, pIf_rec, bNot_rec, hb, hi, hp, Int.ofNat_eq_natCast]; simp_all; done) | (simp only [bIf_rec, pIf_rec, bNot_rec, hb, hi, hp, Int.ofNat_eq_natCast]; simp_all; omega) | (simp only [bIf_rec, pIf_rec, bNot_rec, hb, hi, hp, Int.ofNat_eq_natCast, oConds, St.ev]; simp [strip]; done) | (simp only [bIf_rec, pIf_rec, bNot_rec, hb, hi, hp, Int.ofNat_eq_natCast, oConds, St.ev]; simp [strip]; simp_all; done) | (simp only [bIf_rec, pIf_rec, bNot_rec, hb, hi, hp, Int.ofNat_eq_natCast]; grind) | (exfalso; simp only [bIf_rec, bNot_rec] at *; simp_all; done) | (exfalso; rename_i heq; simp only [bIf_rec, pIf_rec, bNot_rec, hb, hi, hp, Int.ofNat_eq_natCast] at heq; simp at heq; omega) | (exfalso; rename_i heq; simp only [bIf_rec, pIf_rec, bNot_rec, hb, hi, hp, Int.ofNat_eq_natCast] at heq; simp at heq; simp_all; omega) | (exfalso; rename_i heq; simp only [bIf_rec, pIf_rec, bNot_rec, hb, hi, hp, Int.ofNat_eq_natCast] at heq; grind) | skip

theorem in140_ok (x : Img) (y : RImg) (hy : y = x.r) (hwf : x.Wf) (k : Int) (hk0 : 0 ≤ k) (hk : k < x.fixs.length) : ∃ c : Int, (c = 0 → True) ∧ PCalls P 74 [iV k, .op 0 0 0] [imgE y] (iV c) := by
  obtain ⟨name, shared, segs, entry, exps, imps, fixs, thr, thrSize, inits, finis, needs, id, lines, unw, files, types, vars, places⟩ := y
  have hfixs : fixs = x.fixs.map Fix.e := congrArg RImg.fixs hy
  have lfixs : fixs.length = x.fixs.length := by rw [hfixs]; simp
  have wfixs := hwf.fixs.1
  have wsegs := hwf.segs.1
  have hB : ∀ e ∈ [imgE ⟨name, shared, segs, entry, exps, imps, fixs, thr, thrSize, inits, finis, needs, id, lines, unw, files, types, vars, places⟩], Ent.und 1 e := imgE_und _
  unfold imgE at *
  obtain ⟨oi, ob, op, os, on, or_, om, hω⟩ := shields
  have hi : ∀ f, oi f = f () := hω.i
  have hb : ∀ f, ob f = f () := hω.b
  have hp : ∀ f, op f = f () := hω.p
  have hs : ∀ f, os f = f () := hω.s
  have hr : ∀ f, or_ f = f () := hω.r
  refine PCalls.runE hmix hω q_image_Validate_4_1 ?_
  unfold c_image_Validate_4_1
  repeat' first
    | (refine meanE_id ?_; conv => arg 4; cbv)
    | (refine finInt hω (by (conv => lhs; cbv); all_goals rfl) ?_ hB ?_ ?_)
    | (refine callE hω (fixup_ok x _ hy hwf _ hk0 hk) (by (try (conv => cbv)); simp [undL, AV.und, agg]) (fun v => by simp [AV.und, undL, iV, bV, fltV, agg]) ?_ fun v hv => ?_)
    | (refine callGE hω (fixup_ok x _ hy hwf _ hk0 hk) (by (try (conv => cbv)); simp [undL, AV.und, agg]) (fun v => by simp [AV.und, undL, iV, bV, fltV, agg]) ?_ fun v hv => ?_)
    | (refine callQE hω (fixup_ok x _ hy hwf _ hk0 hk) (by (try (conv => cbv)); simp [undL, AV.und, agg]) (fun v => by simp [AV.und, undL, iV, bV, fltV, agg]) ?_ fun v hv => ?_)
    | (split <;> (rename_i h; simp only [h]; (try simp only [bIf_rec, pIf_rec, bNot_rec, hb, hi, hp, Int.ofNat_eq_natCast] at h); (try simp at h)))
    | (split <;> skip)
  all_goals first | omega | (simp; done) | (simp only [hi]; (try rw [wrap_i64 (by omega)]); omega) | (simp only [bIf_rec, pIf_rec, bNot_rec, hb, hi, hp, Int.ofNat_eq_natCast]; simp; done) | (simp; omega) | (simp only [bIf_rec, pIf_rec, bNot_rec, hb, hi, hp, Int.ofNat_eq_natCast]; simp; omega) | (intro hc; assumption) | (intro hc; exact hv hc) | trivial | (simp only [bIf_rec, pIf_rec, bNot_rec, hb, hi, hp, Int.ofNat_eq_natCast]; simp_all; done) | (simp only [bIf_rec, pIf_rec, bNot_rec, hb, hi, hp, Int.ofNat_eq_natCast]; simp_all; omega) | (simp only [bIf_rec, pIf_rec, bNot_rec, hb, hi, hp, Int.ofNat_eq_natCast, oConds, St.ev]; simp [strip]; done) | (simp only [bIf_rec, pIf_rec, bNot_rec, hb, hi, hp, Int.ofNat_eq_natCast, oConds, St.ev]; simp [strip]; simp_all; done) | (simp only [bIf_rec, pIf_rec, bNot_rec, hb, hi, hp, Int.ofNat_eq_natCast]; grind) | (exfalso; simp only [bIf_rec, bNot_rec] at *; simp_all; done) | (exfalso; rename_i heq; simp only [bIf_rec, pIf_rec, bNot_rec, hb, hi, hp, Int.ofNat_eq_natCast] at heq; simp at heq; omega) | (exfalso; rename_i heq; simp only [bIf_rec, pIf_rec, bNot_rec, hb, hi, hp, Int.ofNat_eq_natCast] at heq; simp at heq; simp_all; omega) | (exfalso; rename_i heq; simp only [bIf_rec, pIf_rec, bNot_rec, hb, hi, hp, Int.ofNat_eq_natCast] at heq; grind) | skip

theorem in145_ok (x : Img) (y : RImg) (hy : y = x.r) (hwf : x.Wf) (k : Int) (hk0 : 0 ≤ k) (hk : k < x.needs.length) : ∃ c : Int, (c = 0 → True) ∧ PCalls P 79 [iV k, .op 0 0 0] [imgE y] (iV c) := by
  obtain ⟨name, shared, segs, entry, exps, imps, fixs, thr, thrSize, inits, finis, needs, id, lines, unw, files, types, vars, places⟩ := y
  have hneeds : needs = x.needs.map eS := congrArg RImg.needs hy
  have lneeds : needs.length = x.needs.length := by rw [hneeds]; simp
  have wneeds := hwf.needs.1
  have wsegs := hwf.segs.1
  have hB : ∀ e ∈ [imgE ⟨name, shared, segs, entry, exps, imps, fixs, thr, thrSize, inits, finis, needs, id, lines, unw, files, types, vars, places⟩], Ent.und 1 e := imgE_und _
  unfold imgE at *
  obtain ⟨oi, ob, op, os, on, or_, om, hω⟩ := shields
  have hi : ∀ f, oi f = f () := hω.i
  have hb : ∀ f, ob f = f () := hω.b
  have hp : ∀ f, op f = f () := hω.p
  have hs : ∀ f, os f = f () := hω.s
  have hr : ∀ f, or_ f = f () := hω.r
  refine PCalls.runE hmix hω q_image_Validate_7_1 ?_
  unfold c_image_Validate_7_1
  repeat' first
    | (refine meanE_id ?_; conv => arg 4; cbv)
    | (refine finInt hω (by (conv => lhs; cbv); all_goals rfl) ?_ hB ?_ ?_)
    | (refine callE hω (isName2_ok _ (by assumption)) (by (try (conv => cbv)); simp [undL, AV.und, agg]) (fun v => by simp [AV.und, undL, iV, bV, fltV, agg]) ?_ fun v hv => ?_)
    | (refine callGE hω (isName2_ok _ (by assumption)) (by (try (conv => cbv)); simp [undL, AV.und, agg]) (fun v => by simp [AV.und, undL, iV, bV, fltV, agg]) ?_ fun v hv => ?_)
    | (refine callQE hω (isName2_ok _ (by assumption)) (by (try (conv => cbv)); simp [undL, AV.und, agg]) (fun v => by simp [AV.und, undL, iV, bV, fltV, agg]) ?_ fun v hv => ?_)
    | (refine callE hω (when_ok _ _) (by (try (conv => cbv)); simp [undL, AV.und, agg]) (fun v => by simp [AV.und, undL, iV, bV, fltV, agg]) ?_ fun v hv => ?_)
    | (refine callGE hω (when_ok _ _) (by (try (conv => cbv)); simp [undL, AV.und, agg]) (fun v => by simp [AV.und, undL, iV, bV, fltV, agg]) ?_ fun v hv => ?_)
    | (refine callQE hω (when_ok _ _) (by (try (conv => cbv)); simp [undL, AV.und, agg]) (fun v => by simp [AV.und, undL, iV, bV, fltV, agg]) ?_ fun v hv => ?_)
    | (refine elemM hω hneeds ?_ ?_ (fun _ => rfl) ?_ fun q hq => ?_; rotate_left 3; obtain nn := q; have hqw := hwf.needs.2 _ _ hq; clear hq)
    | (split <;> (rename_i h; simp only [h]; (try simp only [bIf_rec, pIf_rec, bNot_rec, hb, hi, hp, Int.ofNat_eq_natCast] at h); (try simp at h)))
    | (split <;> skip)
  all_goals first | omega | (simp; done) | (simp only [hi]; (try rw [wrap_i64 (by omega)]); omega) | (simp only [bIf_rec, pIf_rec, bNot_rec, hb, hi, hp, Int.ofNat_eq_natCast]; simp; done) | (simp; omega) | (simp only [bIf_rec, pIf_rec, bNot_rec, hb, hi, hp, Int.ofNat_eq_natCast]; simp; omega) | (intro hc; assumption) | (intro hc; exact hv hc) | trivial | (simp only [bIf_rec, pIf_rec, bNot_rec, hb, hi, hp, Int.ofNat_eq_natCast]; simp_all; done) | (simp only [bIf_rec, pIf_rec, bNot_rec, hb, hi, hp, Int.ofNat_eq_natCast]; simp_all; omega) | (simp only [bIf_rec, pIf_rec, bNot_rec, hb, hi, hp, Int.ofNat_eq_natCast, oConds, St.ev]; simp [strip]; done) | (simp only [bIf_rec, pIf_rec, bNot_rec, hb, hi, hp, Int.ofNat_eq_natCast, oConds, St.ev]; simp [strip]; simp_all; done) | (simp only [bIf_rec, pIf_rec, bNot_rec, hb, hi, hp, Int.ofNat_eq_natCast]; grind) | (exfalso; simp only [bIf_rec, bNot_rec] at *; simp_all; done) | (exfalso; rename_i heq; simp only [bIf_rec, pIf_rec, bNot_rec, hb, hi, hp, Int.ofNat_eq_natCast] at heq; simp at heq; omega) | (exfalso; rename_i heq; simp only [bIf_rec, pIf_rec, bNot_rec, hb, hi, hp, Int.ofNat_eq_natCast] at heq; simp at heq; simp_all; omega) | (exfalso; rename_i heq; simp only [bIf_rec, pIf_rec, bNot_rec, hb, hi, hp, Int.ofNat_eq_natCast] at heq; grind) | skip

theorem in148_ok (x : Img) (y : RImg) (hy : y = x.r) (hwf : x.Wf) (k : Int) (hk0 : 0 ≤ k) (hk : k < x.files.length) : ∃ c : Int, (c = 0 → True) ∧ PCalls P 82 [iV k, .op 0 0 0] [imgE y] (iV c) := by
  obtain ⟨name, shared, segs, entry, exps, imps, fixs, thr, thrSize, inits, finis, needs, id, lines, unw, files, types, vars, places⟩ := y
  have hfiles : files = x.files.map eS := congrArg RImg.files hy
  have lfiles : files.length = x.files.length := by rw [hfiles]; simp
  have wfiles := hwf.files.1
  have wsegs := hwf.segs.1
  have hB : ∀ e ∈ [imgE ⟨name, shared, segs, entry, exps, imps, fixs, thr, thrSize, inits, finis, needs, id, lines, unw, files, types, vars, places⟩], Ent.und 1 e := imgE_und _
  unfold imgE at *
  obtain ⟨oi, ob, op, os, on, or_, om, hω⟩ := shields
  have hi : ∀ f, oi f = f () := hω.i
  have hb : ∀ f, ob f = f () := hω.b
  have hp : ∀ f, op f = f () := hω.p
  have hs : ∀ f, os f = f () := hω.s
  have hr : ∀ f, or_ f = f () := hω.r
  refine PCalls.runE hmix hω q_image_Validate_8_1 ?_
  unfold c_image_Validate_8_1
  repeat' first
    | (refine meanE_id ?_; conv => arg 4; cbv)
    | (refine finInt hω (by (conv => lhs; cbv); all_goals rfl) ?_ hB ?_ ?_)
    | (refine callE hω (isName2_ok _ (by assumption)) (by (try (conv => cbv)); simp [undL, AV.und, agg]) (fun v => by simp [AV.und, undL, iV, bV, fltV, agg]) ?_ fun v hv => ?_)
    | (refine callGE hω (isName2_ok _ (by assumption)) (by (try (conv => cbv)); simp [undL, AV.und, agg]) (fun v => by simp [AV.und, undL, iV, bV, fltV, agg]) ?_ fun v hv => ?_)
    | (refine callQE hω (isName2_ok _ (by assumption)) (by (try (conv => cbv)); simp [undL, AV.und, agg]) (fun v => by simp [AV.und, undL, iV, bV, fltV, agg]) ?_ fun v hv => ?_)
    | (refine callE hω (when_ok _ _) (by (try (conv => cbv)); simp [undL, AV.und, agg]) (fun v => by simp [AV.und, undL, iV, bV, fltV, agg]) ?_ fun v hv => ?_)
    | (refine callGE hω (when_ok _ _) (by (try (conv => cbv)); simp [undL, AV.und, agg]) (fun v => by simp [AV.und, undL, iV, bV, fltV, agg]) ?_ fun v hv => ?_)
    | (refine callQE hω (when_ok _ _) (by (try (conv => cbv)); simp [undL, AV.und, agg]) (fun v => by simp [AV.und, undL, iV, bV, fltV, agg]) ?_ fun v hv => ?_)
    | (refine elemM hω hfiles ?_ ?_ (fun _ => rfl) ?_ fun q hq => ?_; rotate_left 3; obtain nn := q; have hqw := hwf.files.2 _ _ hq; clear hq)
    | (split <;> (rename_i h; simp only [h]; (try simp only [bIf_rec, pIf_rec, bNot_rec, hb, hi, hp, Int.ofNat_eq_natCast] at h); (try simp at h)))
    | (split <;> skip)
  all_goals first | omega | (simp; done) | (simp only [hi]; (try rw [wrap_i64 (by omega)]); omega) | (simp only [bIf_rec, pIf_rec, bNot_rec, hb, hi, hp, Int.ofNat_eq_natCast]; simp; done) | (simp; omega) | (simp only [bIf_rec, pIf_rec, bNot_rec, hb, hi, hp, Int.ofNat_eq_natCast]; simp; omega) | (intro hc; assumption) | (intro hc; exact hv hc) | trivial | (simp only [bIf_rec, pIf_rec, bNot_rec, hb, hi, hp, Int.ofNat_eq_natCast]; simp_all; done) | (simp only [bIf_rec, pIf_rec, bNot_rec, hb, hi, hp, Int.ofNat_eq_natCast]; simp_all; omega) | (simp only [bIf_rec, pIf_rec, bNot_rec, hb, hi, hp, Int.ofNat_eq_natCast, oConds, St.ev]; simp [strip]; done) | (simp only [bIf_rec, pIf_rec, bNot_rec, hb, hi, hp, Int.ofNat_eq_natCast, oConds, St.ev]; simp [strip]; simp_all; done) | (simp only [bIf_rec, pIf_rec, bNot_rec, hb, hi, hp, Int.ofNat_eq_natCast]; grind) | (exfalso; simp only [bIf_rec, bNot_rec] at *; simp_all; done) | (exfalso; rename_i heq; simp only [bIf_rec, pIf_rec, bNot_rec, hb, hi, hp, Int.ofNat_eq_natCast] at heq; simp at heq; omega) | (exfalso; rename_i heq; simp only [bIf_rec, pIf_rec, bNot_rec, hb, hi, hp, Int.ofNat_eq_natCast] at heq; simp at heq; simp_all; omega) | (exfalso; rename_i heq; simp only [bIf_rec, pIf_rec, bNot_rec, hb, hi, hp, Int.ofNat_eq_natCast] at heq; grind) | skip

theorem in150_ok (x : Img) (y : RImg) (hy : y = x.r) (hwf : x.Wf) (k : Int) (hk0 : 0 ≤ k) (hk : k < x.lines.length) : ∃ c : Int, (c = 0 → True) ∧ PCalls P 84 [iV k, .op 0 0 0] [imgE y] (iV c) := by
  obtain ⟨name, shared, segs, entry, exps, imps, fixs, thr, thrSize, inits, finis, needs, id, lines, unw, files, types, vars, places⟩ := y
  have hlines : lines = x.lines.map LineR.e := congrArg RImg.lines hy
  have llines : lines.length = x.lines.length := by rw [hlines]; simp
  have wlines := hwf.lines.1
  have wsegs := hwf.segs.1
  have hB : ∀ e ∈ [imgE ⟨name, shared, segs, entry, exps, imps, fixs, thr, thrSize, inits, finis, needs, id, lines, unw, files, types, vars, places⟩], Ent.und 1 e := imgE_und _
  unfold imgE at *
  obtain ⟨oi, ob, op, os, on, or_, om, hω⟩ := shields
  have hi : ∀ f, oi f = f () := hω.i
  have hb : ∀ f, ob f = f () := hω.b
  have hp : ∀ f, op f = f () := hω.p
  have hs : ∀ f, os f = f () := hω.s
  have hr : ∀ f, or_ f = f () := hω.r
  refine PCalls.runE hmix hω q_image_Validate_9_1 ?_
  unfold c_image_Validate_9_1
  repeat' first
    | (refine meanE_id ?_; conv => arg 4; cbv)
    | (refine finInt hω (by (conv => lhs; cbv); all_goals rfl) ?_ hB ?_ ?_)
    | (refine callE hω (line_ok x _ hy _ hk0 hk (by omega)) (by (try (conv => cbv)); simp [undL, AV.und, agg]) (fun v => by simp [AV.und, undL, iV, bV, fltV, agg]) ?_ fun v hv => ?_)
    | (refine callGE hω (line_ok x _ hy _ hk0 hk (by omega)) (by (try (conv => cbv)); simp [undL, AV.und, agg]) (fun v => by simp [AV.und, undL, iV, bV, fltV, agg]) ?_ fun v hv => ?_)
    | (refine callQE hω (line_ok x _ hy _ hk0 hk (by omega)) (by (try (conv => cbv)); simp [undL, AV.und, agg]) (fun v => by simp [AV.und, undL, iV, bV, fltV, agg]) ?_ fun v hv => ?_)
    | (split <;> (rename_i h; simp only [h]; (try simp only [bIf_rec, pIf_rec, bNot_rec, hb, hi, hp, Int.ofNat_eq_natCast] at h); (try simp at h)))
    | (split <;> skip)
  all_goals first | omega | (simp; done) | (simp only [hi]; (try rw [wrap_i64 (by omega)]); omega) | (simp only [bIf_rec, pIf_rec, bNot_rec, hb, hi, hp, Int.ofNat_eq_natCast]; simp; done) | (simp; omega) | (simp only [bIf_rec, pIf_rec, bNot_rec, hb, hi, hp, Int.ofNat_eq_natCast]; simp; omega) | (intro hc; assumption) | (intro hc; exact hv hc) | trivial | (simp only [bIf_rec, pIf_rec, bNot_rec, hb, hi, hp, Int.ofNat_eq_natCast]; simp_all; done) | (simp only [bIf_rec, pIf_rec, bNot_rec, hb, hi, hp, Int.ofNat_eq_natCast]; simp_all; omega) | (simp only [bIf_rec, pIf_rec, bNot_rec, hb, hi, hp, Int.ofNat_eq_natCast, oConds, St.ev]; simp [strip]; done) | (simp only [bIf_rec, pIf_rec, bNot_rec, hb, hi, hp, Int.ofNat_eq_natCast, oConds, St.ev]; simp [strip]; simp_all; done) | (simp only [bIf_rec, pIf_rec, bNot_rec, hb, hi, hp, Int.ofNat_eq_natCast]; grind) | (exfalso; simp only [bIf_rec, bNot_rec] at *; simp_all; done) | (exfalso; rename_i heq; simp only [bIf_rec, pIf_rec, bNot_rec, hb, hi, hp, Int.ofNat_eq_natCast] at heq; simp at heq; omega) | (exfalso; rename_i heq; simp only [bIf_rec, pIf_rec, bNot_rec, hb, hi, hp, Int.ofNat_eq_natCast] at heq; simp at heq; simp_all; omega) | (exfalso; rename_i heq; simp only [bIf_rec, pIf_rec, bNot_rec, hb, hi, hp, Int.ofNat_eq_natCast] at heq; grind) | skip

theorem in153_ok (x : Img) (y : RImg) (hy : y = x.r) (hwf : x.Wf) (k : Int) (hk0 : 0 ≤ k) (hk : k < x.unw.length) : ∃ c : Int, (c = 0 → UnwFact x k.toNat) ∧ PCalls P 87 [iV k, .op 0 0 0] [imgE y] (iV c) := by
  obtain ⟨name, shared, segs, entry, exps, imps, fixs, thr, thrSize, inits, finis, needs, id, lines, unw, files, types, vars, places⟩ := y
  have hunw : unw = x.unw.map UnwR.e := congrArg RImg.unw hy
  have lunw : unw.length = x.unw.length := by rw [hunw]; simp
  have wunw := hwf.unw.1
  have wsegs := hwf.segs.1
  have hB : ∀ e ∈ [imgE ⟨name, shared, segs, entry, exps, imps, fixs, thr, thrSize, inits, finis, needs, id, lines, unw, files, types, vars, places⟩], Ent.und 1 e := imgE_und _
  unfold imgE at *
  obtain ⟨oi, ob, op, os, on, or_, om, hω⟩ := shields
  have hi : ∀ f, oi f = f () := hω.i
  have hb : ∀ f, ob f = f () := hω.b
  have hp : ∀ f, op f = f () := hω.p
  have hs : ∀ f, os f = f () := hω.s
  have hr : ∀ f, or_ f = f () := hω.r
  refine PCalls.runE hmix hω q_image_Validate_10_1 ?_
  unfold c_image_Validate_10_1
  repeat' first
    | (refine meanE_id ?_; conv => arg 4; cbv)
    | (refine finInt hω (by (conv => lhs; cbv); all_goals rfl) ?_ hB ?_ ?_)
    | (refine callE hω (unwindRow_ok x _ hy _ hk0 hk (by omega)) (by (try (conv => cbv)); simp [undL, AV.und, agg]) (fun v => by simp [AV.und, undL, iV, bV, fltV, agg]) ?_ fun v hv => ?_)
    | (refine callGE hω (unwindRow_ok x _ hy _ hk0 hk (by omega)) (by (try (conv => cbv)); simp [undL, AV.und, agg]) (fun v => by simp [AV.und, undL, iV, bV, fltV, agg]) ?_ fun v hv => ?_)
    | (refine callQE hω (unwindRow_ok x _ hy _ hk0 hk (by omega)) (by (try (conv => cbv)); simp [undL, AV.und, agg]) (fun v => by simp [AV.und, undL, iV, bV, fltV, agg]) ?_ fun v hv => ?_)
    | (split <;> (rename_i h; simp only [h]; (try simp only [bIf_rec, pIf_rec, bNot_rec, hb, hi, hp, Int.ofNat_eq_natCast] at h); (try simp at h)))
    | (split <;> skip)
  all_goals first | omega | (simp; done) | (simp only [hi]; (try rw [wrap_i64 (by omega)]); omega) | (simp only [bIf_rec, pIf_rec, bNot_rec, hb, hi, hp, Int.ofNat_eq_natCast]; simp; done) | (simp; omega) | (simp only [bIf_rec, pIf_rec, bNot_rec, hb, hi, hp, Int.ofNat_eq_natCast]; simp; omega) | (intro hc; assumption) | (intro hc; exact hv hc) | trivial | (simp only [bIf_rec, pIf_rec, bNot_rec, hb, hi, hp, Int.ofNat_eq_natCast]; simp_all; done) | (simp only [bIf_rec, pIf_rec, bNot_rec, hb, hi, hp, Int.ofNat_eq_natCast]; simp_all; omega) | (simp only [bIf_rec, pIf_rec, bNot_rec, hb, hi, hp, Int.ofNat_eq_natCast, oConds, St.ev]; simp [strip]; done) | (simp only [bIf_rec, pIf_rec, bNot_rec, hb, hi, hp, Int.ofNat_eq_natCast, oConds, St.ev]; simp [strip]; simp_all; done) | (simp only [bIf_rec, pIf_rec, bNot_rec, hb, hi, hp, Int.ofNat_eq_natCast]; grind) | (exfalso; simp only [bIf_rec, bNot_rec] at *; simp_all; done) | (exfalso; rename_i heq; simp only [bIf_rec, pIf_rec, bNot_rec, hb, hi, hp, Int.ofNat_eq_natCast] at heq; simp at heq; omega) | (exfalso; rename_i heq; simp only [bIf_rec, pIf_rec, bNot_rec, hb, hi, hp, Int.ofNat_eq_natCast] at heq; simp at heq; simp_all; omega) | (exfalso; rename_i heq; simp only [bIf_rec, pIf_rec, bNot_rec, hb, hi, hp, Int.ofNat_eq_natCast] at heq; grind) | skip

theorem in158_ok (x : Img) (y : RImg) (hy : y = x.r) (hwf : x.Wf) (k : Int) (hk0 : 0 ≤ k) (hk : k < x.vars.length) : ∃ c : Int, (c = 0 → ∀ v, x.vars[k.toNat]? = some v → 0 ≤ v.ty ∧ v.ty < x.types.length ∧ withinF x.segs v.addr 0 0 = true) ∧ PCalls P 92 [iV k, .op 0 0 0] [imgE y] (iV c) := by
  obtain ⟨name, shared, segs, entry, exps, imps, fixs, thr, thrSize, inits, finis, needs, id, lines, unw, files, types, vars, places⟩ := y
  have hvars : vars = x.vars.map Var.e := congrArg RImg.vars hy
  have lvars : vars.length = x.vars.length := by rw [hvars]; simp
  have wvars := hwf.vars.1
  have wsegs := hwf.segs.1
  have hB : ∀ e ∈ [imgE ⟨name, shared, segs, entry, exps, imps, fixs, thr, thrSize, inits, finis, needs, id, lines, unw, files, types, vars, places⟩], Ent.und 1 e := imgE_und _
  unfold imgE at *
  obtain ⟨oi, ob, op, os, on, or_, om, hω⟩ := shields
  have hi : ∀ f, oi f = f () := hω.i
  have hb : ∀ f, ob f = f () := hω.b
  have hp : ∀ f, op f = f () := hω.p
  have hs : ∀ f, os f = f () := hω.s
  have hr : ∀ f, or_ f = f () := hω.r
  refine PCalls.runE hmix hω q_image_Validate_12_1 ?_
  unfold c_image_Validate_12_1
  repeat' first
    | (refine meanE_id ?_; conv => arg 4; cbv)
    | (refine finInt hω (by (conv => lhs; cbv); all_goals rfl) ?_ hB ?_ ?_)
    | (refine callE hω (variable_ok x _ hy hwf _ hk0 hk) (by (try (conv => cbv)); simp [undL, AV.und, agg]) (fun v => by simp [AV.und, undL, iV, bV, fltV, agg]) ?_ fun v hv => ?_)
    | (refine callGE hω (variable_ok x _ hy hwf _ hk0 hk) (by (try (conv => cbv)); simp [undL, AV.und, agg]) (fun v => by simp [AV.und, undL, iV, bV, fltV, agg]) ?_ fun v hv => ?_)
    | (refine callQE hω (variable_ok x _ hy hwf _ hk0 hk) (by (try (conv => cbv)); simp [undL, AV.und, agg]) (fun v => by simp [AV.und, undL, iV, bV, fltV, agg]) ?_ fun v hv => ?_)
    | (split <;> (rename_i h; simp only [h]; (try simp only [bIf_rec, pIf_rec, bNot_rec, hb, hi, hp, Int.ofNat_eq_natCast] at h); (try simp at h)))
    | (split <;> skip)
  all_goals first | omega | (simp; done) | (simp only [hi]; (try rw [wrap_i64 (by omega)]); omega) | (simp only [bIf_rec, pIf_rec, bNot_rec, hb, hi, hp, Int.ofNat_eq_natCast]; simp; done) | (simp; omega) | (simp only [bIf_rec, pIf_rec, bNot_rec, hb, hi, hp, Int.ofNat_eq_natCast]; simp; omega) | (intro hc; assumption) | (intro hc; exact hv hc) | trivial | (simp only [bIf_rec, pIf_rec, bNot_rec, hb, hi, hp, Int.ofNat_eq_natCast]; simp_all; done) | (simp only [bIf_rec, pIf_rec, bNot_rec, hb, hi, hp, Int.ofNat_eq_natCast]; simp_all; omega) | (simp only [bIf_rec, pIf_rec, bNot_rec, hb, hi, hp, Int.ofNat_eq_natCast, oConds, St.ev]; simp [strip]; done) | (simp only [bIf_rec, pIf_rec, bNot_rec, hb, hi, hp, Int.ofNat_eq_natCast, oConds, St.ev]; simp [strip]; simp_all; done) | (simp only [bIf_rec, pIf_rec, bNot_rec, hb, hi, hp, Int.ofNat_eq_natCast]; grind) | (exfalso; simp only [bIf_rec, bNot_rec] at *; simp_all; done) | (exfalso; rename_i heq; simp only [bIf_rec, pIf_rec, bNot_rec, hb, hi, hp, Int.ofNat_eq_natCast] at heq; simp at heq; omega) | (exfalso; rename_i heq; simp only [bIf_rec, pIf_rec, bNot_rec, hb, hi, hp, Int.ofNat_eq_natCast] at heq; simp at heq; simp_all; omega) | (exfalso; rename_i heq; simp only [bIf_rec, pIf_rec, bNot_rec, hb, hi, hp, Int.ofNat_eq_natCast] at heq; grind) | skip

theorem in161_ok (x : Img) (y : RImg) (hy : y = x.r) (hwf : x.Wf) (k : Int) (hk0 : 0 ≤ k) (hk : k < x.places.length) : ∃ c : Int, (c = 0 → True) ∧ PCalls P 95 [iV k, .op 0 0 0] [imgE y] (iV c) := by
  obtain ⟨name, shared, segs, entry, exps, imps, fixs, thr, thrSize, inits, finis, needs, id, lines, unw, files, types, vars, places⟩ := y
  have hplaces : places = x.places.map Plc.e := congrArg RImg.places hy
  have lplaces : places.length = x.places.length := by rw [hplaces]; simp
  have wplaces := hwf.places.1
  have wsegs := hwf.segs.1
  have hB : ∀ e ∈ [imgE ⟨name, shared, segs, entry, exps, imps, fixs, thr, thrSize, inits, finis, needs, id, lines, unw, files, types, vars, places⟩], Ent.und 1 e := imgE_und _
  unfold imgE at *
  obtain ⟨oi, ob, op, os, on, or_, om, hω⟩ := shields
  have hi : ∀ f, oi f = f () := hω.i
  have hb : ∀ f, ob f = f () := hω.b
  have hp : ∀ f, op f = f () := hω.p
  have hs : ∀ f, os f = f () := hω.s
  have hr : ∀ f, or_ f = f () := hω.r
  refine PCalls.runE hmix hω q_image_Validate_13_1 ?_
  unfold c_image_Validate_13_1
  repeat' first
    | (refine meanE_id ?_; conv => arg 4; cbv)
    | (refine finInt hω (by (conv => lhs; cbv); all_goals rfl) ?_ hB ?_ ?_)
    | (refine callE hω (placed_ok x _ hy hwf _ hk0 hk) (by (try (conv => cbv)); simp [undL, AV.und, agg]) (fun v => by simp [AV.und, undL, iV, bV, fltV, agg]) ?_ fun v hv => ?_)
    | (refine callGE hω (placed_ok x _ hy hwf _ hk0 hk) (by (try (conv => cbv)); simp [undL, AV.und, agg]) (fun v => by simp [AV.und, undL, iV, bV, fltV, agg]) ?_ fun v hv => ?_)
    | (refine callQE hω (placed_ok x _ hy hwf _ hk0 hk) (by (try (conv => cbv)); simp [undL, AV.und, agg]) (fun v => by simp [AV.und, undL, iV, bV, fltV, agg]) ?_ fun v hv => ?_)
    | (split <;> (rename_i h; simp only [h]; (try simp only [bIf_rec, pIf_rec, bNot_rec, hb, hi, hp, Int.ofNat_eq_natCast] at h); (try simp at h)))
    | (split <;> skip)
  all_goals first | omega | (simp; done) | (simp only [hi]; (try rw [wrap_i64 (by omega)]); omega) | (simp only [bIf_rec, pIf_rec, bNot_rec, hb, hi, hp, Int.ofNat_eq_natCast]; simp; done) | (simp; omega) | (simp only [bIf_rec, pIf_rec, bNot_rec, hb, hi, hp, Int.ofNat_eq_natCast]; simp; omega) | (intro hc; assumption) | (intro hc; exact hv hc) | trivial | (simp only [bIf_rec, pIf_rec, bNot_rec, hb, hi, hp, Int.ofNat_eq_natCast]; simp_all; done) | (simp only [bIf_rec, pIf_rec, bNot_rec, hb, hi, hp, Int.ofNat_eq_natCast]; simp_all; omega) | (simp only [bIf_rec, pIf_rec, bNot_rec, hb, hi, hp, Int.ofNat_eq_natCast, oConds, St.ev]; simp [strip]; done) | (simp only [bIf_rec, pIf_rec, bNot_rec, hb, hi, hp, Int.ofNat_eq_natCast, oConds, St.ev]; simp [strip]; simp_all; done) | (simp only [bIf_rec, pIf_rec, bNot_rec, hb, hi, hp, Int.ofNat_eq_natCast]; grind) | (exfalso; simp only [bIf_rec, bNot_rec] at *; simp_all; done) | (exfalso; rename_i heq; simp only [bIf_rec, pIf_rec, bNot_rec, hb, hi, hp, Int.ofNat_eq_natCast] at heq; simp at heq; omega) | (exfalso; rename_i heq; simp only [bIf_rec, pIf_rec, bNot_rec, hb, hi, hp, Int.ofNat_eq_natCast] at heq; simp at heq; simp_all; omega) | (exfalso; rename_i heq; simp only [bIf_rec, pIf_rec, bNot_rec, hb, hi, hp, Int.ofNat_eq_natCast] at heq; grind) | skip

end Go.Den.Z
namespace Go.Den.Z
open Go.Proofs
theorem eachW (E0 : Ent) (hE0 : Ent.und 1 E0) (X : List Ent) (n most list : Int) (N : Nat) (hn : n = N) (hN : N < 9000000000000000) (f : FuncId) (caps : List AV) (hcaps : undL 1 caps) (G : Nat → Prop)
    (hcode : ∀ k : Nat, k < N → ∃ c : Int, (c = 0 → G k) ∧ PCalls P f (iV k :: caps) [E0] (iV c)) : ∃ v : Int × Int, (v.1 = 0 → v.2 = 0 ∧ N ≤ most ∧ ∀ k : Nat, k < N → G k) ∧ PCalls P 67 [iV n, iV most, iV list, .fn f caps] ([E0] ++ X) (fltV v.1 v.2) := by
  obtain ⟨v, h1, h2⟩ := each_ok E0 hE0 n most list N hn hN f caps hcaps G hcode
  exact ⟨v, h1, h2.weaken (by simp [undL, AV.und, iV]; exact hcaps) (by simp [AV.und, undL, fltV, agg]) (by intro e he; simp at he; subst he; exact hE0)⟩

theorem out132_ok (x : Img) (y : RImg) (hy : y = x.r) (hwf : x.Wf)  : ∃ c : Int × Int, (c.1 = 0 → c.2 = 0 ∧ (x.exps.length : Int) ≤ 200 ∧ ∀ k : Nat, k < x.exps.length → True) ∧ PCalls P 66 [.op 0 0 0] [imgE y] (fltV c.1 c.2) := by
  obtain ⟨name, shared, segs, entry, exps, imps, fixs, thr, thrSize, inits, finis, needs, id, lines, unw, files, types, vars, places⟩ := y
  have hexps : exps = x.exps.map Exp.e := congrArg RImg.exps hy
  have lexps : exps.length = x.exps.length := by rw [hexps]; simp
  have wexps := hwf.exps.1
  have hB : ∀ e ∈ [imgE ⟨name, shared, segs, entry, exps, imps, fixs, thr, thrSize, inits, finis, needs, id, lines, unw, files, types, vars, places⟩], Ent.und 1 e := imgE_und _
  have hin := in134_ok x _ hy hwf
  unfold imgE at *
  obtain ⟨oi, ob, op, os, on, or_, om, hω⟩ := shields
  have hi : ∀ f, oi f = f () := hω.i
  have hb : ∀ f, ob f = f () := hω.b
  have hp : ∀ f, op f = f () := hω.p
  have hs : ∀ f, os f = f () := hω.s
  have hr : ∀ f, or_ f = f () := hω.r
  refine PCalls.runE hmix hω q_image_Validate_2 ?_
  unfold c_image_Validate_2
  repeat' first
    | (refine meanE_id ?_; conv => arg 4; cbv)
    | (refine finFlt hω (by (conv => lhs; cbv); all_goals rfl) ?_ hB ?_ ?_)
    | (refine meanE_callF hω (eachW _ (hB _ (List.mem_singleton.2 (by rfl))) _ _ _ _ x.exps.length ?_ (by omega) _ _ (by simp [undL, AV.und]) (fun k => True) (fun k hk => hin k (by omega) (by omega))) ?_ fun c hc => ?_)
  all_goals first
    | trivial
    | exact hc
    | (rw [hi]; simp [lexps]; done)
    | (simp only [bIf_rec, pIf_rec, bNot_rec, hb, hi, hp, Int.ofNat_eq_natCast, oConds, St.ev]; simp [strip]; done)
    | skip

theorem out136_ok (x : Img) (y : RImg) (hy : y = x.r) (hwf : x.Wf)  : ∃ c : Int × Int, (c.1 = 0 → c.2 = 0 ∧ (x.imps.length : Int) ≤ 80 ∧ ∀ k : Nat, k < x.imps.length → True) ∧ PCalls P 70 [.op 0 0 0] [imgE y] (fltV c.1 c.2) := by
  obtain ⟨name, shared, segs, entry, exps, imps, fixs, thr, thrSize, inits, finis, needs, id, lines, unw, files, types, vars, places⟩ := y
  have himps : imps = x.imps.map Imp.e := congrArg RImg.imps hy
  have limps : imps.length = x.imps.length := by rw [himps]; simp
  have wimps := hwf.imps.1
  have hB : ∀ e ∈ [imgE ⟨name, shared, segs, entry, exps, imps, fixs, thr, thrSize, inits, finis, needs, id, lines, unw, files, types, vars, places⟩], Ent.und 1 e := imgE_und _
  have hin := in137_ok x _ hy hwf
  unfold imgE at *
  obtain ⟨oi, ob, op, os, on, or_, om, hω⟩ := shields
  have hi : ∀ f, oi f = f () := hω.i
  have hb : ∀ f, ob f = f () := hω.b
  have hp : ∀ f, op f = f () := hω.p
  have hs : ∀ f, os f = f () := hω.s
  have hr : ∀ f, or_ f = f () := hω.r
  refine PCalls.runE hmix hω q_image_Validate_3 ?_
  unfold c_image_Validate_3
  repeat' first
    | (refine meanE_id ?_; conv => arg 4; cbv)
    | (refine finFlt hω (by (conv => lhs; cbv); all_goals rfl) ?_ hB ?_ ?_)
    | (refine meanE_callF hω (eachW _ (hB _ (List.mem_singleton.2 (by rfl))) _ _ _ _ x.imps.length ?_ (by omega) _ _ (by simp [undL, AV.und]) (fun k => True) (fun k hk => hin k (by omega) (by omega))) ?_ fun c hc => ?_)
  all_goals first
    | trivial
    | exact hc
    | (rw [hi]; simp [limps]; done)
    | (simp only [bIf_rec, pIf_rec, bNot_rec, hb, hi, hp, Int.ofNat_eq_natCast, oConds, St.ev]; simp [strip]; done)
    | skip

theorem out139_ok (x : Img) (y : RImg) (hy : y = x.r) (hwf : x.Wf)  : ∃ c : Int × Int, (c.1 = 0 → c.2 = 0 ∧ (x.fixs.length : Int) ≤ 600 ∧ ∀ k : Nat, k < x.fixs.length → True) ∧ PCalls P 73 [.op 0 0 0] [imgE y] (fltV c.1 c.2) := by
  obtain ⟨name, shared, segs, entry, exps, imps, fixs, thr, thrSize, inits, finis, needs, id, lines, unw, files, types, vars, places⟩ := y
  have hfixs : fixs = x.fixs.map Fix.e := congrArg RImg.fixs hy
  have lfixs : fixs.length = x.fixs.length := by rw [hfixs]; simp
  have wfixs := hwf.fixs.1
  have hB : ∀ e ∈ [imgE ⟨name, shared, segs, entry, exps, imps, fixs, thr, thrSize, inits, finis, needs, id, lines, unw, files, types, vars, places⟩], Ent.und 1 e := imgE_und _
  have hin := in140_ok x _ hy hwf
  unfold imgE at *
  obtain ⟨oi, ob, op, os, on, or_, om, hω⟩ := shields
  have hi : ∀ f, oi f = f () := hω.i
  have hb : ∀ f, ob f = f () := hω.b
  have hp : ∀ f, op f = f () := hω.p
  have hs : ∀ f, os f = f () := hω.s
  have hr : ∀ f, or_ f = f () := hω.r
  refine PCalls.runE hmix hω q_image_Validate_4 ?_
  unfold c_image_Validate_4
  repeat' first
    | (refine meanE_id ?_; conv => arg 4; cbv)
    | (refine finFlt hω (by (conv => lhs; cbv); all_goals rfl) ?_ hB ?_ ?_)
    | (refine meanE_callF hω (eachW _ (hB _ (List.mem_singleton.2 (by rfl))) _ _ _ _ x.fixs.length ?_ (by omega) _ _ (by simp [undL, AV.und]) (fun k => True) (fun k hk => hin k (by omega) (by omega))) ?_ fun c hc => ?_)
  all_goals first
    | trivial
    | exact hc
    | (rw [hi]; simp [lfixs]; done)
    | (simp only [bIf_rec, pIf_rec, bNot_rec, hb, hi, hp, Int.ofNat_eq_natCast, oConds, St.ev]; simp [strip]; done)
    | skip

theorem out144_ok (x : Img) (y : RImg) (hy : y = x.r) (hwf : x.Wf)  : ∃ c : Int × Int, (c.1 = 0 → c.2 = 0 ∧ (x.needs.length : Int) ≤ 5 ∧ ∀ k : Nat, k < x.needs.length → True) ∧ PCalls P 78 [.op 0 0 0] [imgE y] (fltV c.1 c.2) := by
  obtain ⟨name, shared, segs, entry, exps, imps, fixs, thr, thrSize, inits, finis, needs, id, lines, unw, files, types, vars, places⟩ := y
  have hneeds : needs = x.needs.map eS := congrArg RImg.needs hy
  have lneeds : needs.length = x.needs.length := by rw [hneeds]; simp
  have wneeds := hwf.needs.1
  have hB : ∀ e ∈ [imgE ⟨name, shared, segs, entry, exps, imps, fixs, thr, thrSize, inits, finis, needs, id, lines, unw, files, types, vars, places⟩], Ent.und 1 e := imgE_und _
  have hin := in145_ok x _ hy hwf
  unfold imgE at *
  obtain ⟨oi, ob, op, os, on, or_, om, hω⟩ := shields
  have hi : ∀ f, oi f = f () := hω.i
  have hb : ∀ f, ob f = f () := hω.b
  have hp : ∀ f, op f = f () := hω.p
  have hs : ∀ f, os f = f () := hω.s
  have hr : ∀ f, or_ f = f () := hω.r
  refine PCalls.runE hmix hω q_image_Validate_7 ?_
  unfold c_image_Validate_7
  repeat' first
    | (refine meanE_id ?_; conv => arg 4; cbv)
    | (refine finFlt hω (by (conv => lhs; cbv); all_goals rfl) ?_ hB ?_ ?_)
    | (refine meanE_callF hω (eachW _ (hB _ (List.mem_singleton.2 (by rfl))) _ _ _ _ x.needs.length ?_ (by omega) _ _ (by simp [undL, AV.und]) (fun k => True) (fun k hk => hin k (by omega) (by omega))) ?_ fun c hc => ?_)
  all_goals first
    | trivial
    | exact hc
    | (rw [hi]; simp [lneeds]; done)
    | (simp only [bIf_rec, pIf_rec, bNot_rec, hb, hi, hp, Int.ofNat_eq_natCast, oConds, St.ev]; simp [strip]; done)
    | skip

theorem out147_ok (x : Img) (y : RImg) (hy : y = x.r) (hwf : x.Wf)  : ∃ c : Int × Int, (c.1 = 0 → c.2 = 0 ∧ (x.files.length : Int) ≤ 64 ∧ ∀ k : Nat, k < x.files.length → True) ∧ PCalls P 81 [.op 0 0 0] [imgE y] (fltV c.1 c.2) := by
  obtain ⟨name, shared, segs, entry, exps, imps, fixs, thr, thrSize, inits, finis, needs, id, lines, unw, files, types, vars, places⟩ := y
  have hfiles : files = x.files.map eS := congrArg RImg.files hy
  have lfiles : files.length = x.files.length := by rw [hfiles]; simp
  have wfiles := hwf.files.1
  have hB : ∀ e ∈ [imgE ⟨name, shared, segs, entry, exps, imps, fixs, thr, thrSize, inits, finis, needs, id, lines, unw, files, types, vars, places⟩], Ent.und 1 e := imgE_und _
  have hin := in148_ok x _ hy hwf
  unfold imgE at *
  obtain ⟨oi, ob, op, os, on, or_, om, hω⟩ := shields
  have hi : ∀ f, oi f = f () := hω.i
  have hb : ∀ f, ob f = f () := hω.b
  have hp : ∀ f, op f = f () := hω.p
  have hs : ∀ f, os f = f () := hω.s
  have hr : ∀ f, or_ f = f () := hω.r
  refine PCalls.runE hmix hω q_image_Validate_8 ?_
  unfold c_image_Validate_8
  repeat' first
    | (refine meanE_id ?_; conv => arg 4; cbv)
    | (refine finFlt hω (by (conv => lhs; cbv); all_goals rfl) ?_ hB ?_ ?_)
    | (refine meanE_callF hω (eachW _ (hB _ (List.mem_singleton.2 (by rfl))) _ _ _ _ x.files.length ?_ (by omega) _ _ (by simp [undL, AV.und]) (fun k => True) (fun k hk => hin k (by omega) (by omega))) ?_ fun c hc => ?_)
  all_goals first
    | trivial
    | exact hc
    | (rw [hi]; simp [lfiles]; done)
    | (simp only [bIf_rec, pIf_rec, bNot_rec, hb, hi, hp, Int.ofNat_eq_natCast, oConds, St.ev]; simp [strip]; done)
    | skip

theorem out149_ok (x : Img) (y : RImg) (hy : y = x.r) (hwf : x.Wf)  : ∃ c : Int × Int, (c.1 = 0 → c.2 = 0 ∧ (x.lines.length : Int) ≤ 2000 ∧ ∀ k : Nat, k < x.lines.length → True) ∧ PCalls P 83 [.op 0 0 0] [imgE y] (fltV c.1 c.2) := by
  obtain ⟨name, shared, segs, entry, exps, imps, fixs, thr, thrSize, inits, finis, needs, id, lines, unw, files, types, vars, places⟩ := y
  have hlines : lines = x.lines.map LineR.e := congrArg RImg.lines hy
  have llines : lines.length = x.lines.length := by rw [hlines]; simp
  have wlines := hwf.lines.1
  have hB : ∀ e ∈ [imgE ⟨name, shared, segs, entry, exps, imps, fixs, thr, thrSize, inits, finis, needs, id, lines, unw, files, types, vars, places⟩], Ent.und 1 e := imgE_und _
  have hin := in150_ok x _ hy hwf
  unfold imgE at *
  obtain ⟨oi, ob, op, os, on, or_, om, hω⟩ := shields
  have hi : ∀ f, oi f = f () := hω.i
  have hb : ∀ f, ob f = f () := hω.b
  have hp : ∀ f, op f = f () := hω.p
  have hs : ∀ f, os f = f () := hω.s
  have hr : ∀ f, or_ f = f () := hω.r
  refine PCalls.runE hmix hω q_image_Validate_9 ?_
  unfold c_image_Validate_9
  repeat' first
    | (refine meanE_id ?_; conv => arg 4; cbv)
    | (refine finFlt hω (by (conv => lhs; cbv); all_goals rfl) ?_ hB ?_ ?_)
    | (refine meanE_callF hω (eachW _ (hB _ (List.mem_singleton.2 (by rfl))) _ _ _ _ x.lines.length ?_ (by omega) _ _ (by simp [undL, AV.und]) (fun k => True) (fun k hk => hin k (by omega) (by omega))) ?_ fun c hc => ?_)
  all_goals first
    | trivial
    | exact hc
    | (rw [hi]; simp [llines]; done)
    | (simp only [bIf_rec, pIf_rec, bNot_rec, hb, hi, hp, Int.ofNat_eq_natCast, oConds, St.ev]; simp [strip]; done)
    | skip

theorem out152_ok (x : Img) (y : RImg) (hy : y = x.r) (hwf : x.Wf)  : ∃ c : Int × Int, (c.1 = 0 → c.2 = 0 ∧ (x.unw.length : Int) ≤ 2000 ∧ ∀ k : Nat, k < x.unw.length → UnwFact x k) ∧ PCalls P 86 [.op 0 0 0] [imgE y] (fltV c.1 c.2) := by
  obtain ⟨name, shared, segs, entry, exps, imps, fixs, thr, thrSize, inits, finis, needs, id, lines, unw, files, types, vars, places⟩ := y
  have hunw : unw = x.unw.map UnwR.e := congrArg RImg.unw hy
  have lunw : unw.length = x.unw.length := by rw [hunw]; simp
  have wunw := hwf.unw.1
  have hB : ∀ e ∈ [imgE ⟨name, shared, segs, entry, exps, imps, fixs, thr, thrSize, inits, finis, needs, id, lines, unw, files, types, vars, places⟩], Ent.und 1 e := imgE_und _
  have hin := in153_ok x _ hy hwf
  unfold imgE at *
  obtain ⟨oi, ob, op, os, on, or_, om, hω⟩ := shields
  have hi : ∀ f, oi f = f () := hω.i
  have hb : ∀ f, ob f = f () := hω.b
  have hp : ∀ f, op f = f () := hω.p
  have hs : ∀ f, os f = f () := hω.s
  have hr : ∀ f, or_ f = f () := hω.r
  refine PCalls.runE hmix hω q_image_Validate_10 ?_
  unfold c_image_Validate_10
  repeat' first
    | (refine meanE_id ?_; conv => arg 4; cbv)
    | (refine finFlt hω (by (conv => lhs; cbv); all_goals rfl) ?_ hB ?_ ?_)
    | (refine meanE_callF hω (eachW _ (hB _ (List.mem_singleton.2 (by rfl))) _ _ _ _ x.unw.length ?_ (by omega) _ _ (by simp [undL, AV.und]) (fun k => UnwFact x k) (fun k hk => hin k (by omega) (by omega))) ?_ fun c hc => ?_)
  all_goals first
    | trivial
    | exact hc
    | (rw [hi]; simp [lunw]; done)
    | (simp only [bIf_rec, pIf_rec, bNot_rec, hb, hi, hp, Int.ofNat_eq_natCast, oConds, St.ev]; simp [strip]; done)
    | skip

theorem out157_ok (x : Img) (y : RImg) (hy : y = x.r) (hwf : x.Wf)  : ∃ c : Int × Int, (c.1 = 0 → c.2 = 0 ∧ (x.vars.length : Int) ≤ 500 ∧ ∀ k : Nat, k < x.vars.length → ∀ v, x.vars[k]? = some v → 0 ≤ v.ty ∧ v.ty < x.types.length ∧ withinF x.segs v.addr 0 0 = true) ∧ PCalls P 91 [.op 0 0 0] [imgE y] (fltV c.1 c.2) := by
  obtain ⟨name, shared, segs, entry, exps, imps, fixs, thr, thrSize, inits, finis, needs, id, lines, unw, files, types, vars, places⟩ := y
  have hvars : vars = x.vars.map Var.e := congrArg RImg.vars hy
  have lvars : vars.length = x.vars.length := by rw [hvars]; simp
  have wvars := hwf.vars.1
  have hB : ∀ e ∈ [imgE ⟨name, shared, segs, entry, exps, imps, fixs, thr, thrSize, inits, finis, needs, id, lines, unw, files, types, vars, places⟩], Ent.und 1 e := imgE_und _
  have hin := in158_ok x _ hy hwf
  unfold imgE at *
  obtain ⟨oi, ob, op, os, on, or_, om, hω⟩ := shields
  have hi : ∀ f, oi f = f () := hω.i
  have hb : ∀ f, ob f = f () := hω.b
  have hp : ∀ f, op f = f () := hω.p
  have hs : ∀ f, os f = f () := hω.s
  have hr : ∀ f, or_ f = f () := hω.r
  refine PCalls.runE hmix hω q_image_Validate_12 ?_
  unfold c_image_Validate_12
  repeat' first
    | (refine meanE_id ?_; conv => arg 4; cbv)
    | (refine finFlt hω (by (conv => lhs; cbv); all_goals rfl) ?_ hB ?_ ?_)
    | (refine meanE_callF hω (eachW _ (hB _ (List.mem_singleton.2 (by rfl))) _ _ _ _ x.vars.length ?_ (by omega) _ _ (by simp [undL, AV.und]) (fun k => ∀ v, x.vars[k]? = some v → 0 ≤ v.ty ∧ v.ty < x.types.length ∧ withinF x.segs v.addr 0 0 = true) (fun k hk => hin k (by omega) (by omega))) ?_ fun c hc => ?_)
  all_goals first
    | trivial
    | exact hc
    | (rw [hi]; simp [lvars]; done)
    | (simp only [bIf_rec, pIf_rec, bNot_rec, hb, hi, hp, Int.ofNat_eq_natCast, oConds, St.ev]; simp [strip]; done)
    | skip

theorem out160_ok (x : Img) (y : RImg) (hy : y = x.r) (hwf : x.Wf)  : ∃ c : Int × Int, (c.1 = 0 → c.2 = 0 ∧ (x.places.length : Int) ≤ 200 ∧ ∀ k : Nat, k < x.places.length → True) ∧ PCalls P 94 [.op 0 0 0] [imgE y] (fltV c.1 c.2) := by
  obtain ⟨name, shared, segs, entry, exps, imps, fixs, thr, thrSize, inits, finis, needs, id, lines, unw, files, types, vars, places⟩ := y
  have hplaces : places = x.places.map Plc.e := congrArg RImg.places hy
  have lplaces : places.length = x.places.length := by rw [hplaces]; simp
  have wplaces := hwf.places.1
  have hB : ∀ e ∈ [imgE ⟨name, shared, segs, entry, exps, imps, fixs, thr, thrSize, inits, finis, needs, id, lines, unw, files, types, vars, places⟩], Ent.und 1 e := imgE_und _
  have hin := in161_ok x _ hy hwf
  unfold imgE at *
  obtain ⟨oi, ob, op, os, on, or_, om, hω⟩ := shields
  have hi : ∀ f, oi f = f () := hω.i
  have hb : ∀ f, ob f = f () := hω.b
  have hp : ∀ f, op f = f () := hω.p
  have hs : ∀ f, os f = f () := hω.s
  have hr : ∀ f, or_ f = f () := hω.r
  refine PCalls.runE hmix hω q_image_Validate_13 ?_
  unfold c_image_Validate_13
  repeat' first
    | (refine meanE_id ?_; conv => arg 4; cbv)
    | (refine finFlt hω (by (conv => lhs; cbv); all_goals rfl) ?_ hB ?_ ?_)
    | (refine meanE_callF hω (eachW _ (hB _ (List.mem_singleton.2 (by rfl))) _ _ _ _ x.places.length ?_ (by omega) _ _ (by simp [undL, AV.und]) (fun k => True) (fun k hk => hin k (by omega) (by omega))) ?_ fun c hc => ?_)
  all_goals first
    | trivial
    | exact hc
    | (rw [hi]; simp [lplaces]; done)
    | (simp only [bIf_rec, pIf_rec, bNot_rec, hb, hi, hp, Int.ofNat_eq_natCast, oConds, St.ev]; simp [strip]; done)
    | skip

end Go.Den.Z
namespace Go.Den.Z
open Go.Proofs
theorem segFault_ok (E0 E2 : Ent) (h0 : Ent.und 3 E0) (h2 : Ent.und 3 E2) (i n : Int) : ∃ c : Int × Int, c.1 = n ∧ PCalls P 109 [iV n, .op 1 0 0] [E0, .mem 1 [[iV i]], E2] (fltV c.1 c.2) := by
  obtain ⟨oi, ob, op, os, on, or_, om, hω⟩ := shields
  have hi : ∀ f, oi f = f () := hω.i
  have hb : ∀ f, ob f = f () := hω.b
  have hp : ∀ f, op f = f () := hω.p
  have hs : ∀ f, os f = f () := hω.s
  have hr : ∀ f, or_ f = f () := hω.r
  refine PCalls.runE hmix hω q_image_segments_1 ?_
  unfold c_image_segments_1
  have hB : ∀ e ∈ [E0, .mem 1 [[iV i]], E2], Ent.und 3 e := by
    intro e he
    simp at he
    rcases he with rfl | rfl | rfl
    · exact h0
    · simp [Ent.und, undL, AV.und, iV]
    · exact h2
  conv => arg 4; cbv
  refine finFlt hω (by (conv => lhs; cbv); all_goals rfl) ?_ hB ?_ ?_
  · rfl
  · simp
  · simp

def SegOkL (l : List Seg) (n : Nat) : Prop := ∀ (k : Nat) s, k < n → l[k]? = some s → s.Ok
theorem segments_ok (l : List Seg) (rows : List (List CV)) (hrows : rows = l.map Seg.e) (hw : LW Seg.Wf l) : ∃ v : Int × Int, (v.1 = 0 → v.2 = 0 ∧ ∀ (k : Nat) s, l[k]? = some s → s.Ok) ∧ PCalls P 102 [.c (.sl rows)] [] (fltV v.1 v.2) := by
  have hll : rows.length = l.length := by rw [hrows]; simp
  have hln := hw.1
  obtain ⟨oi, ob, op, os, on, or_, om, hω⟩ := shields
  have hi : ∀ f, oi f = f () := hω.i
  have hb : ∀ f, ob f = f () := hω.b
  have hp : ∀ f, op f = f () := hω.p
  have hs : ∀ f, os f = f () := hω.s
  have hr : ∀ f, or_ f = f () := hω.r
  obtain ⟨x, hx⟩ := counter 0
  refine PCalls.runE hmix hω q_image_segments ?_
  unfold c_image_segments
  repeat' first
    | (refine meanE_id ?_; conv => arg 4; cbv)
    | (refine finFlt hω (by conv => lhs; cbv) ?_ (fun e he => by cases he) ?_ ?_)
    | (refine meanE_loopS hω [2, 3, 11, 12, 13] (fun y : Nat × Int => [(13, iV (x y.1)), (3, iV y.2)]) (fun _ => []) (fun _ => []) (fun y => y.1 ≤ l.length ∧ SegOkL l y.1 ∧ 0 ≤ y.2 ∧ y.2 ≤ 2097152) (fun y => l.length - y.1) (0, 0) ?_ ?_ (fun e he => by cases he) ?_ ?_ fun y hy => ?_; rotate_left 4; obtain ⟨i, e⟩ := y; obtain ⟨hy1, hy2, hy3, hy4⟩ := hy; have hxi : x i = i := by rw [hx]; omega)
    | (refine roundG_next (i + 1, v) ?_ ?_ ?_ (fun e he => by cases he) ?_ ?_)
    | (refine roundG_out hω ?_ (fun h => by cases h) ?_)
    | (refine callE hω (up_ok _ _ ?_ ?_ rfl) (by (try (conv => cbv)); simp [undL, AV.und, agg]) (fun v => by simp [AV.und, undL, iV, bV, fltV, agg]) ?_ fun v hv => ?_)
    | (refine elemM hω hrows ?_ ?_ (fun _ => rfl) ?_ fun q hq => ?_; rotate_left 3; obtain ⟨sa, ss, sr, sd⟩ := q; have hqw := hw.2 _ _ hq)
    | (refine meanE_callF hω (segFault_ok _ _ ?_ ?_ _ _) ?_ fun v hv => ?_)
    | (split <;> (rename_i h; simp only [h]; (try simp only [bIf_rec, pIf_rec, bNot_rec, hb, hi, hp, Int.ofNat_eq_natCast] at h); (try simp at h)))
    | (split <;> skip)
  all_goals first
    | trivial
    | omega
    | (simp [Ent.und, undL, AV.und]; done)
    | (simp [FgtOk, undT, undEs, undEs.undRows, undL, AV.und]; done)
    | (intro hc; simp at hc; done)
    | (intro hc; simp at hc; omega)
    | (intro hc; have hc2 : v.1 = 0 := hc; rw [hv] at hc2; exact absurd hc2 (by decide))
    | (intro hc; exact ⟨rfl, fun k s hk => hy2 k s (by have := (List.getElem?_eq_some_iff.1 hk).1; omega) hk⟩)
    | (refine ⟨Nat.zero_le _, fun k s hk => by omega, by omega, by omega⟩)
    | ((conv => lhs; cbv); (conv => rhs; cbv); simp only [hx 0]; rfl)
    | ((conv => lhs; cbv); (conv => rhs; cbv); simp only [show (oi fun _ => IntKind.wrap .i64 (x i + 1)) = x (i + 1) from by rw [hi, hx, hx, wrap_i64 (by omega)]; push_cast; omega])
    | (simp only [bIf_rec, pIf_rec, bNot_rec, hb, hi, hp, Int.ofNat_eq_natCast]; simp; done)
    | (simp only [bIf_rec, pIf_rec, bNot_rec, hb, hi, hp, Int.ofNat_eq_natCast]; have e1 := wrapE (1048576 - ss); have e2 := wrapE (sa + ss); omega)
    | (simp only [bIf_rec, pIf_rec, bNot_rec, hb, hi, hp, Int.ofNat_eq_natCast, oConds, St.ev]; simp [strip]; done)
    | (simp only [bIf_rec, pIf_rec, bNot_rec, hb, hi, hp, Int.ofNat_eq_natCast, oConds, St.ev]; simp [strip]; omega)
    | (have e1 := wrapE (1048576 - ss); have e2 := wrapE (sa + ss); have hii : (x i).toNat = i := (by omega); rw [hii] at hq; (try simp only [hi] at hv); refine ⟨by show i + 1 ≤ _; omega, fun k s (hk : k < i + 1) hs => ?_, by show 0 ≤ v; omega, by show v ≤ _; omega⟩; by_cases hki : k < i; exact hy2 k s hki hs; have hke : k = i := (by omega); subst hke; rw [hq] at hs; cases hs; exact ⟨by simp; omega, by simp; omega, by simp; omega, by simp; omega, by simp; omega⟩)
    | skip

end Go.Den.Z
