/-
  Part of the proof that FramesBeginAtTheCore returns true: contracts of the checks of type records.
  No condition.
-/
import Derived.Test.YtkimkplgmifckaaB1
set_option linter.unusedSimpArgs false
set_option linter.unusedVariables false
set_option maxRecDepth 20000
set_option maxHeartbeats 8000000
namespace Go.Den.Z
open Go.Proofs
theorem fldName_ok (q : Fld) (E0 : Ent) (h0 : Ent.und 2 E0) (nm : ByteArray) (a b : Int) : ∃ c : Bool, c = decide (q.name = nm) ∧ PCalls P 120 [agg q.e, .op 1 0 0] [E0, .mem 3 [[sV nm, iV a, iV b]]] (bV c) := by
  have hB : ∀ e ∈ [E0, .mem 3 [[sV nm, iV a, iV b]]], Ent.und 2 e := by
    intro e he
    simp at he
    rcases he with rfl | rfl
    · exact h0
    · simp [Ent.und, undL, AV.und, sV, iV]
  obtain ⟨n, t, f⟩ := q
  obtain ⟨oi, ob, op, os, on, or_, om, hω⟩ := shields
  have hi : ∀ f, oi f = f () := hω.i
  have hb : ∀ f, ob f = f () := hω.b
  have hp : ∀ f, op f = f () := hω.p
  have hs : ∀ f, os f = f () := hω.s
  have hr : ∀ f, or_ f = f () := hω.r
  refine PCalls.runE hmix hω q_records_field_1 ?_
  unfold c_records_field_1
  conv => arg 4; cbv
  refine finBool hω (by (conv => lhs; cbv); all_goals rfl) ?_ hB ?_ ?_
  · rw [hb]
  · simp
  · simp
theorem dupFld_ok (l : List Fld) (rows : List (List CV)) (hrows : rows = l.map Fld.e) (hl : l.length ≤ 1048576) (E0 : Ent) (h0 : Ent.und 2 E0) (nm : ByteArray) (a b : Int) (X H : List Ent) (hH : H = E0 :: .mem 3 [[sV nm, iV a, iV b]] :: X) : ∃ c : Bool, True ∧ PCalls P 119 [.c (.sl rows), .fn 120 [.op 1 0 0]] H (bV c) := by
  have hB : ∀ e ∈ [E0, .mem 3 [[sV nm, iV a, iV b]]], Ent.und 2 e := by
    intro e he
    simp at he
    rcases he with rfl | rfl
    · exact h0
    · simp [Ent.und, undL, AV.und, sV, iV]
  obtain ⟨c, hc, hcall⟩ := containsFld_ok l Fld.e rows hrows (fun _ => rfl) (fun x => ⟨_, _, _, rfl⟩) 120 [.op 1 0 0] [E0, .mem 3 [[sV nm, iV a, iV b]]] hB (by simp [undL, AV.und]) (by omega) (fun i => (l[i]?).elim false fun q => decide (q.name = nm)) (fun i q hq => by
    obtain ⟨c, hc, h⟩ := fldName_ok q E0 h0 nm a b
    simp only [hq, Option.elim]
    rw [← hc]
    exact h)
  subst hH
  exact ⟨c, trivial, hcall.weaken (X := X) (by simp [undL, AV.und]) (by simp [AV.und, bV]) hB⟩

theorem field_ok (l : List Ty) (rows : List (List CV)) (hrows : rows = l.map Ty.e) (hl : LW Ty.Wf l) (n k : Nat) (kind size elem count : Int) (name : ByteArray) (flds : List Fld) (ht : l[n]? = some ⟨kind, name, size, elem, count, flds⟩) (hk : k < flds.length) (zn zk : Int) (hzn : zn = n) (hzk : zk = k)
    (hsz0 : 0 ≤ size ∧ size ≤ 1000000) (hsz : ∀ (j : Nat) t, j < n → l[j]? = some t → 0 ≤ t.size ∧ t.size ≤ 1000000)
    (hprev : ∀ (j : Nat) q, j < k → flds[j]? = some q → Fld.Ok l n ⟨kind, name, size, elem, count, flds⟩ q) : ∃ c : Int, (c = 0 → ∀ q, flds[k]? = some q → Fld.Ok l n ⟨kind, name, size, elem, count, flds⟩ q) ∧ PCalls P 115 [.c (.sl rows), iV zn, iV zk] [] (iV c) := by
  have hll : rows.length = l.length := by rw [hrows]; simp
  have hln := hl.1
  have htw := hl.2 _ _ ht
  have hfl := htw.flds.1
  have hfw := htw.flds.2
  simp only at hfl hfw
  have hnl : n < l.length := (List.getElem?_eq_some_iff.1 ht).1
  generalize hfr : flds.map Fld.e = frows
  have hfrl : frows.length = flds.length := by rw [← hfr]; simp
  obtain ⟨oi, ob, op, os, on, or_, om, hω⟩ := shields
  have hi : ∀ f, oi f = f () := hω.i
  have hb : ∀ f, ob f = f () := hω.b
  have hp : ∀ f, op f = f () := hω.p
  have hs : ∀ f, os f = f () := hω.s
  have hr : ∀ f, or_ f = f () := hω.r
  refine PCalls.runE hmix hω q_records_field ?_
  unfold c_records_field
  conv => arg 4; cbv
  refine meanE_elem hω (Ty.e ⟨kind, name, size, elem, count, flds⟩) (by omega) (by rw [hrows, hzn]; simp [ht]) rfl (by trivial) ?_
  simp only [Ty.e, hfr]
  conv => arg 4; cbv
  obtain ⟨⟨fn, ft, fo⟩, hq⟩ : ∃ q, flds[k]? = some q := ⟨_, List.getElem?_eq_getElem hk⟩
  have hqw := hfw _ _ hq
  have hq1 := hqw.name
  have hq2 := hqw.ty
  have hq3 := hqw.off
  simp only [szr, i64r] at hq1 hq2 hq3
  refine meanE_elem hω (Fld.e ⟨fn, ft, fo⟩) (by omega) (by rw [hzk, ← hfr]; simp [hq]) rfl (by trivial) ?_
  simp only [Fld.e]
  conv => arg 4; cbv
  repeat' first
    | (refine meanE_id ?_; conv => arg 4; cbv)
    | (refine finInt hω (by conv => lhs; cbv) ?_ (fun e he => by cases he) ?_ ?_)
    | (refine callE hω (tokName_ok _ hq1) (by (try (conv => cbv)); simp [undL, AV.und, agg]) (fun v => by simp [AV.und, undL, iV, bV, fltV, agg]) ?_ fun v hv => ?_)
    | (refine meanE_callF hω (dupFld_ok (flds.take k) _ ?_ (by simp; omega) _ ?_ fn ft fo _ _ rfl) ?_ fun v hv => ?_)
    | (refine elemM hω hfr.symm ?_ ?_ (fun _ => rfl) ?_ fun q hqq => ?_; rotate_left 3; obtain ⟨pn, pt, po⟩ := q; have hpv1 := (hprev _ _ (by rw [hi, wrap_i64 (by omega)]; omega) hqq).ty; have hpv2 := (hprev _ _ (by rw [hi, wrap_i64 (by omega)]; omega) hqq).off; simp only at hpv1 hpv2)
    | (refine elemM hω hrows ?_ ?_ (fun _ => rfl) ?_ fun q hqt => ?_; rotate_left 3; obtain ⟨tk, tn, ts, te, tc, tf⟩ := q; simp only [Ty.e]; generalize tf.map Fld.e = tfr; have hpt := hsz _ _ (by omega) hqt; simp only at hpt; (try have hw : IntKind.i64.wrap (po + ts) = po + ts := wrap_i64 (by omega)))
    | (split <;> (rename_i h; simp only [h]; (try simp only [bIf_rec, pIf_rec, bNot_rec, hb, hi, hp, Int.ofNat_eq_natCast] at h); (try simp at h)))
    | (split <;> skip)
  all_goals first
    | trivial
    | (intro hc; exact absurd hc (by decide))
    | (exfalso; rename_i heq; simp only [bIf_rec, pIf_rec, bNot_rec, hb, hi, hp, Int.ofNat_eq_natCast] at heq; simp at heq; omega)
    | omega
    | (simp only [hi]; rw [wrap_i64 (by omega)]; omega)
    | (rw [hr, ← hfr, hzk]; simp [List.map_take]; done)
    | (simp [Ent.und, undL, AV.und]; done)
    | (simp only [hp]; refine ⟨⟨⟨?_, by omega, by omega, by simp; omega⟩, trivial⟩, trivial⟩; intro i row hrow; rw [← hfr] at hrow; simp at hrow; obtain ⟨q, _, rfl⟩ := hrow; rfl)
    | (intro _ q hq'; obtain rfl := Option.some.inj (hq.symm.trans hq'); exact ⟨by simp only; omega, by simp only; omega⟩)
    | (simp only [bIf_rec, pIf_rec, bNot_rec, hb, hi, hp, Int.ofNat_eq_natCast]; simp; done)
    | (simp only [bIf_rec, pIf_rec, bNot_rec, hb, hi, hp, Int.ofNat_eq_natCast]; simp; omega)
    | (intro hc; omega)
    | skip

end Go.Den.Z
namespace Go.Den.Z
open Go.Proofs
theorem check_ok (l : List Ty) (rows : List (List CV)) (hrows : rows = l.map Ty.e) (hl : LW Ty.Wf l) (n : Nat) (kind size elem count : Int) (name : ByteArray) (flds : List Fld) (ht : l[n]? = some ⟨kind, name, size, elem, count, flds⟩) (zn : Int) (hzn : zn = n)
    (hsz : ∀ (j : Nat) t, j < n → l[j]? = some t → 0 ≤ t.size ∧ t.size ≤ 1000000) : ∃ c : Int, (c = 0 → Ty.Ok l n ⟨kind, name, size, elem, count, flds⟩) ∧ PCalls P 107 [.c (.sl rows), iV zn] [] (iV c) := by
  have hll : rows.length = l.length := by rw [hrows]; simp
  have hln := hl.1
  have htw := hl.2 _ _ ht
  have hfl := htw.flds.1
  have hfw := htw.flds.2
  simp only at hfl hfw
  have hwk := htw.kind
  have hws := htw.size
  have hwe := htw.elem
  have hwc := htw.count
  have hwn := htw.name
  simp only [i64r, szr] at hwk hws hwe hwc hwn
  have hnl : n < l.length := (List.getElem?_eq_some_iff.1 ht).1
  generalize hfr : flds.map Fld.e = frows
  have hfrl : frows.length = flds.length := by rw [← hfr]; simp
  obtain ⟨x, hx⟩ := counter 0
  obtain ⟨oi, ob, op, os, on, or_, om, hω⟩ := shields
  have hi : ∀ f, oi f = f () := hω.i
  have hb : ∀ f, ob f = f () := hω.b
  have hp : ∀ f, op f = f () := hω.p
  have hs : ∀ f, os f = f () := hω.s
  have hr : ∀ f, or_ f = f () := hω.r
  refine PCalls.runE hmix hω q_records_check ?_
  unfold c_records_check
  conv => arg 4; cbv
  refine meanE_elem hω (Ty.e ⟨kind, name, size, elem, count, flds⟩) (by omega) (by rw [hrows, hzn]; simp [ht]) rfl (by trivial) ?_
  simp only [Ty.e, hfr]
  conv => arg 4; cbv
  repeat' first
    | (refine meanE_id ?_; conv => arg 4; cbv)
    | (refine finInt hω (by conv => lhs; cbv) ?_ (fun e he => by cases he) ?_ ?_)
    | (refine callE hω (tokName_ok _ hwn) (by (try (conv => cbv)); simp [undL, AV.und, agg]) (fun v => by simp [AV.und, undL, iV, bV, fltV, agg]) ?_ fun v hv => ?_)
    | (refine callGE hω (tokName_ok _ hwn) (by (try (conv => cbv)); simp [undL, AV.und, agg]) (fun v => by simp [AV.und, undL, iV, bV, fltV, agg]) ?_ fun v hv => ?_)
    | (refine callE hω (field_ok l rows hrows hl n i kind size elem count name flds ht (by omega) zn _ hzn hxi (by omega) hsz (fun j q hj hq => hok j hj q hq)) (by (try (conv => cbv)); simp [undL, AV.und, agg]) (fun v => by simp [AV.und, undL, iV, bV, fltV, agg]) ?_ fun v hv => ?_)
    | (refine elemM hω hrows ?_ ?_ (fun _ => rfl) ?_ fun q hqt => ?_; rotate_left 3; obtain ⟨tk, tn, ts, te, tc, tf⟩ := q; simp only [Ty.e]; generalize tf.map Fld.e = tfr; have hpt := hsz _ _ (by omega) hqt; simp only at hpt; have hw : IntKind.i64.wrap (count * ts) = count * ts := wrap_i64 (by have h1 : 0 ≤ count * ts := Int.mul_nonneg (by omega) (by omega); have h2 : count * ts ≤ 1000000 * 1000000 := Int.mul_le_mul (by omega) (by omega) (by omega) (by omega); omega))
    | (refine meanE_loopF hω [0, 1, 156, 157] flds.length (fun i => ∀ q, flds[i]? = some q → Fld.Ok l n ⟨kind, name, size, elem, count, flds⟩ q) (fun i => [(157, iV (x i))]) ?_ (fun e he => by cases he) ?_ ?_ fun i hiN hok => ?_; rotate_left 3; have hxi : x i = i := by rw [hx]; omega)
    | (refine forF_next hok ?_ ?_ ?_ (fun e he => by cases he) ?_ ?_)
    | (refine roundG_out hω ?_ (fun h => by cases h) ?_)
    | (split <;> (rename_i h; simp only [h]; (try simp only [bIf_rec, pIf_rec, bNot_rec, hb, hi, hp, Int.ofNat_eq_natCast] at h); (try simp at h)))
    | (split <;> skip)
  all_goals first
    | trivial
    | (intro hc; exact absurd hc (by decide))
    | (intro hc; exact absurd hc (by assumption))
    | omega
    | (intro q hq; exact hv (by assumption) q hq)
    | (simp [FgtOk, undT, undEs, undEs.undRows, undL, AV.und]; done)
    | ((conv => lhs; cbv); (conv => rhs; cbv); simp only [hx 0]; rfl)
    | ((conv => lhs; cbv); (conv => rhs; cbv); simp only [hx 0])
    | ((conv => lhs; cbv); (conv => rhs; cbv); simp only [show (oi fun _ => IntKind.wrap .i64 (x i + 1)) = x (i + 1) from by rw [hi, hx, hx, wrap_i64 (by omega)]; push_cast; omega])
    | (intro _; refine ⟨by simp only; omega, by simp only; omega, by simp only; omega, by simp only; omega, by simp only; omega, by simp only; omega, ?_, ?_⟩ <;> simp only <;> first | (intro hk3; exfalso; omega) | (intro hk3; exact ⟨by omega, fun e he => by obtain rfl := Option.some.inj (hqt.symm.trans he); simp only; omega⟩) | (intro k q hq; exact hok k (by have := (List.getElem?_eq_some_iff.1 hq).1; omega) q hq))
    | (simp only [bIf_rec, pIf_rec, bNot_rec, hb, hi, hp, Int.ofNat_eq_natCast]; simp; done)
    | (exfalso; rename_i heq; simp only [bIf_rec, pIf_rec, bNot_rec, hb, hi, hp, Int.ofNat_eq_natCast] at heq; simp at heq; omega)
    | ((repeat' apply And.intro) <;> first | trivial | (simp only [bIf_rec, pIf_rec, bNot_rec, hb, hi, hp, Int.ofNat_eq_natCast]; simp; done) | (simp only [bIf_rec, pIf_rec, bNot_rec, hb, hi, hp, Int.ofNat_eq_natCast]; simp; omega) | (simp only [bIf_rec, pIf_rec, bNot_rec, hb, hi, hp, Int.ofNat_eq_natCast]; grind))
   

end Go.Den.Z
namespace Go.Den.Z
open Go.Proofs
theorem check2_ok (l : List Ty) (rows : List (List CV)) (hrows : rows = l.map Ty.e) (hl : LW Ty.Wf l) (n : Nat) (hn : n < l.length) (zn : Int) (hzn : zn = n)
    (hsz : ∀ (j : Nat) t, j < n → l[j]? = some t → 0 ≤ t.size ∧ t.size ≤ 1000000) : ∃ c : Int, (c = 0 → ∀ t, l[n]? = some t → Ty.Ok l n t) ∧ PCalls P 107 [.c (.sl rows), iV zn] [] (iV c) := by
  obtain ⟨⟨kind, name, size, elem, count, flds⟩, ht⟩ : ∃ t, l[n]? = some t := ⟨_, List.getElem?_eq_getElem hn⟩
  obtain ⟨c, h1, h2⟩ := check_ok l rows hrows hl n kind size elem count name flds ht zn hzn hsz
  exact ⟨c, fun h t ht2 => by obtain rfl := Option.some.inj (ht.symm.trans ht2); exact h1 h, h2⟩

theorem records_ok (l : List Ty) (rows : List (List CV)) (hrows : rows = l.map Ty.e) (hl : LW Ty.Wf l) : ∃ v : Int × Int, (v.1 = 0 → v.2 = 0 ∧ l.length ≤ 30 ∧ ∀ (k : Nat) t, l[k]? = some t → Ty.Ok l k t) ∧ PCalls P 90 [.c (.sl rows)] [] (fltV v.1 v.2) := by
  have hll : rows.length = l.length := by rw [hrows]; simp
  have hln := hl.1
  obtain ⟨x, hx⟩ := counter 0
  obtain ⟨oi, ob, op, os, on, or_, om, hω⟩ := shields
  have hi : ∀ f, oi f = f () := hω.i
  have hb : ∀ f, ob f = f () := hω.b
  have hp : ∀ f, op f = f () := hω.p
  have hs : ∀ f, os f = f () := hω.s
  have hr : ∀ f, or_ f = f () := hω.r
  refine PCalls.runE hmix hω q_records_Validate ?_
  unfold c_records_Validate
  repeat' first
    | (refine meanE_id ?_; conv => arg 4; cbv)
    | (refine finFlt hω (by conv => lhs; cbv) ?_ (fun e he => by cases he) ?_ ?_)
    | (refine callE hω (check2_ok l rows hrows hl i (by omega) _ hxi (fun j t hj ht2 => (hok j hj t ht2).size)) (by (try (conv => cbv)); simp [undL, AV.und, agg]) (fun v => by simp [AV.und, undL, iV, bV, fltV, agg]) ?_ fun v hv => ?_)
    | (refine meanE_loopF hω [0, 2, 10, 11] l.length (fun i => ∀ t, l[i]? = some t → Ty.Ok l i t) (fun i => [(11, iV (x i))]) ?_ (fun e he => by cases he) ?_ ?_ fun i hiN hok => ?_; rotate_left 3; have hxi : x i = i := by rw [hx]; omega)
    | (refine forF_next hok ?_ ?_ ?_ (fun e he => by cases he) ?_ ?_)
    | (refine roundG_out hω ?_ (fun h => by cases h) ?_)
    | (split <;> (rename_i h; simp only [h]; (try simp only [bIf_rec, pIf_rec, bNot_rec, hb, hi, hp, Int.ofNat_eq_natCast] at h); (try simp at h)))
    | (split <;> skip)
  all_goals first
    | trivial
    | (intro hc; exact absurd hc (by decide))
    | (intro hc; exact absurd hc (by assumption))
    | omega
    | (intro t ht2; exact hv (by assumption) t ht2)
    | (simp [FgtOk, undT, undEs, undEs.undRows, undL, AV.und]; done)
    | ((conv => lhs; cbv); (conv => rhs; cbv); simp only [hx 0]; rfl)
    | ((conv => lhs; cbv); (conv => rhs; cbv); simp only [hx 0])
    | ((conv => lhs; cbv); (conv => rhs; cbv); simp only [show (oi fun _ => IntKind.wrap .i64 (x i + 1)) = x (i + 1) from by rw [hi, hx, hx, wrap_i64 (by omega)]; push_cast; omega])
    | (intro _; exact ⟨rfl, by omega, fun k t ht2 => hok k (by have := (List.getElem?_eq_some_iff.1 ht2).1; omega) t ht2⟩)
    | (simp only [bIf_rec, pIf_rec, bNot_rec, hb, hi, hp, Int.ofNat_eq_natCast, oConds, St.ev]; simp [strip]; done)
   

end Go.Den.Z
