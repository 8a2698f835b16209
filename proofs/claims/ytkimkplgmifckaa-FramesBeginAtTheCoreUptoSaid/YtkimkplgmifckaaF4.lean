/-
  For all processes and numbers whose reading is of bulk at most 1048576, FramesBeginAtTheCore returns true and leaves its arguments alone.
  Condition: the bound on the bulk that the given statement names.
-/
import Derived.Test.YtkimkplgmifckaaRows
import Derived.ProofKit
import Derived.JoinedCond
import Derived.OpenShut
import Derived.Carry
import Derived.Test.YtkimkplgmifckaaF2
import Derived.Test.YtkimkplgmifckaaF3
set_option linter.unusedSimpArgs false
set_option linter.unusedVariables false
namespace Go.Den
/-- A moment at which nothing is the call's own. -/
def cx0 (W : World) : Cx := { w := W, S := fun k => match W.heap[k]? with | some (.cells cs _ _) => cs.size | _ => 0, β := fun _ => undef, H := [] }
theorem cx0_rd {W : World} {a : Addr} {v : Value} (h : W.cell? a = some v) : (cx0 W).rd a = some v := by
  unfold Cx.rd cx0
  simp only
  have h2 := h
  unfold World.cell? at h2
  split at h2
  · rename_i cs t f hk
    rw [hk]
    simp only
    split at h2
    · cases h2
    have : a.off < cs.size := (Array.getElem?_eq_some_iff.1 h2).1
    rw [if_pos this]
    exact h
  · cases h2
theorem relCL_rel {C : Cx} : ∀ {cs : List CV} {vs : List Value}, RelCL C.rd cs vs → RelL C (cs.map .c) vs
  | [], [], _ => trivial
  | _ :: _, _ :: _, h => ⟨h.1, relCL_rel h.2⟩
  | [], _ :: _, h => h.elim
  | _ :: _, [], h => h.elim
theorem relCL_mono {rd rd' : Addr → Option Value} (h : ∀ a v, rd a = some v → rd' a = some v) : ∀ {cs : List CV} {vs : List Value}, RelCL rd cs vs → RelCL rd' cs vs
  | [], [], _ => trivial
  | _ :: _, _ :: _, hr => ⟨hr.1.mono h, relCL_mono h hr.2⟩
  | [], _ :: _, hr => hr.elim
  | _ :: _, [], hr => hr.elim
theorem nxt_same {W : World} {C' : Cx} (h : Nxt (cx0 W) C') : ∀ i, i < W.heap.size → C'.w.heap[i]? = W.heap[i]? := fun i hi => (h.frame i hi fun b e hb => by simp [cx0] at hb).1
theorem nxt_grown {W : World} {C' : Cx} (h : Nxt (cx0 W) C') : RowKit.Grown W C'.w := by
  refine ⟨⟨h.os, h.output, fun i hi => ?_⟩, h.frz, h.size⟩
  rw [nxt_same h i hi]
  exact (World.keptBut_refl W (fun _ => False)).2.2 i hi
theorem nxt_sameAt {W : World} {C' : Cx} (h : Nxt (cx0 W) C') (p : MemPlace) (hp : p.block < W.heap.size) : W.sameAt C'.w p := by
  have hs := nxt_same h p.block hp
  cases p with
  | cell b off =>
    have hs : C'.w.heap[b]? = W.heap[b]? := hs
    show C'.w.cell? _ = W.cell? _
    unfold World.cell?
    simp only [hs]
  | map b => exact hs
end Go.Den
namespace Go.Proofs.Ytkimkplgmifckaa.framesBegin
open Go.ChangeShapes Go.WideShapes Go.ChangeAt Go.RowKit Go.Den
mutual
theorem bulk_eq {H : Type} : ∀ d : DataW H, Rows.uptoBulk d = dBulk d
  | .lit (.string bytes) => by simp [Rows.uptoBulk, dBulk]
  | .lit (.bool _) => by simp [Rows.uptoBulk, dBulk]
  | .lit (.int _ _) => by simp [Rows.uptoBulk, dBulk]
  | .lit (.float _ _) => by simp [Rows.uptoBulk, dBulk]
  | .lit .nil => by simp [Rows.uptoBulk, dBulk]
  | .nil => by simp [Rows.uptoBulk, dBulk]
  | .ptr d => by simp [Rows.uptoBulk, dBulk, bulk_eq d]
  | .slice es sp => by simp [Rows.uptoBulk, dBulk, bulkAll_eq es, bulkAll_eq sp]
  | .agg ps => by simp [Rows.uptoBulk, dBulk, bulkAll_eq ps]
  | .iface _ d => by simp [Rows.uptoBulk, dBulk, bulk_eq d]
  | .map es => by simp [Rows.uptoBulk, dBulk, bulkEs_eq es]
  | .held _ => by simp [Rows.uptoBulk, dBulk]
theorem bulkAll_eq {H : Type} : ∀ l : List (DataW H), Rows.uptoBulkAll l = dBulkAll l
  | [] => by simp [Rows.uptoBulkAll, dBulkAll]
  | d :: r => by simp [Rows.uptoBulkAll, dBulkAll, bulk_eq d, bulkAll_eq r]
theorem bulkEs_eq {H : Type} : ∀ l : List (Lit × DataW H), Rows.uptoBulkEntries l = dBulkEntries l
  | [] => by simp [Rows.uptoBulkEntries, dBulkEntries]
  | x :: r => by simp [Rows.uptoBulkEntries, dBulkEntries, bulkE_eq x, bulkEs_eq r]
theorem bulkE_eq {H : Type} : ∀ x : Lit × DataW H, Rows.uptoBulkEntry x = dBulkEntry x
  | (.string bytes, d) => by simp [Rows.uptoBulkEntry, dBulkEntry, bulk_eq d]
  | (.bool _, d) => by simp [Rows.uptoBulkEntry, dBulkEntry, bulk_eq d]
  | (.int _ _, d) => by simp [Rows.uptoBulkEntry, dBulkEntry, bulk_eq d]
  | (.float _ _, d) => by simp [Rows.uptoBulkEntry, dBulkEntry, bulk_eq d]
  | (.nil, d) => by simp [Rows.uptoBulkEntry, dBulkEntry, bulk_eq d]
end
theorem own : ownKnob Try.prog.godebug = none := by kernel_rfl
theorem laidOut : laidOutB Try.prog = true := by kernel_rfl
theorem readPrc : Try.prog.readableRec 28 = true := by kernel_rfl
set_option maxRecDepth 100000 in
theorem contract (H : Type) (enc : TypeId × Value → H) (W : World) (base : Nat) (args : Array Value) (ds gs : List (DataW H)) (before : List MemPlace)
    (hval : ∀ (j : Nat) t v, Try.f3.params[j]? = some t → args[j]? = some v → Value.okWide Try.prog W .any base t v)
    (hW : DataW.Whole enc Try.prog Try.f3.params.toList Rows.framesBeginAtTheCoreSpec.vars false W args.toList ds gs before) (hk : Rows.uptoSmall H (ds ++ gs) = true) :
    Calls Try.prog 3 args W fun e W' => ∃ v, e = .returned v ∧ Rows.framesBeginAtTheCoreSpec.post enc Try.prog Try.f3 false true false false W args v W' := by
  have hW' := hW
  obtain ⟨p, q, hA0, hV, rfl, hfz, hnd⟩ := hW
  have hA : DataW.TrodAll enc Try.prog W 0 (fun _ => true) true Try.f3.params.toList args.toList ds p := hA0
  rw [Try.params3] at hA hval
  obtain ⟨v0, vs0, d0, ds0, p0, q0, hargs, rfl, rfl, h0, r0⟩ := trodAll_cons hA
  obtain ⟨v1, vs1, d1, ds1, p1, q1, rfl, rfl, rfl, h1, r1⟩ := trodAll_cons r0
  obtain ⟨rfl, rfl, rfl⟩ := trodAll_nil r1
  obtain rfl : args = #[v0, v1] := by cases args; simp_all
  obtain ⟨rfl, rfl⟩ := trodVars_none hV
  obtain ⟨k, rfl, rfl, rfl, wk⟩ := open_int Try.underlying3 (hval 1 3 v1 rfl rfl) h1
  clear hA0
  have hb : dBulkAll [d0, DataW.lit (H := H) (.int .i64 k)] ≤ 1048576 := by
    rw [← bulkAll_eq]
    have h := of_decide_eq_true hk
    rw [List.append_nil] at h
    exact h
  have hb0 : dBulk d0 ≤ 1048576 := by
    simp only [dBulkAll] at hb
    omega
  have h0k := h0
  obtain ⟨cs, rfl, hcsz⟩ := okWide_struct Try.underlying28 (hval 0 28 v0 rfl rfl)
  obtain ⟨fuel, hf⟩ := h0
  obtain ⟨y, hwf, hrel⟩ := Go.Den.Z.r_Prc.read enc W (fun _ => true) true fuel _ (d0, p0) hf hb0
  have hlaw := (Go.Den.Z.law_ok y hwf k).2 (cx0 W) #[.agg cs, .int .i64 k] ⟨fun b e h => by simp [cx0] at h, fun b b' e e' k' hne h => by simp [cx0] at h⟩ rfl
    ⟨⟨cs, rfl, relCL_rel (relCL_mono (fun a v h => cx0_rd h) hrel)⟩, RelC.sc _, trivial⟩
  refine hlaw.mono fun e W' ⟨v, C', r, he, hw, hn, hh, hr, hR, hH⟩ => ?_
  subst hR
  subst hw
  have hv : v = .bool true := by
    cases hr with
    | sc => rfl
  subst hv
  have hlt : ∀ x ∈ p0, x.block < W.heap.size := fun x hx => by simpa using hW'.lt x (by simp [hx])
  have hg := nxt_grown hn
  exact ⟨_, he, post_of_same (pa := p0 ++ ([] ++ [])) (pv := []) hW' (fun _ _ _ => trodAll_cons_mk (shut_bool Try.underlying4 _) trodAll_mk0)
    (fun sp hsp => trodAll_cons_mk (WideElems.Trod_stays laidOut readPrc (of_decide_eq_true (by kernel_rfl)) h0k (fun x hx => nxt_sameAt hn x (hlt x hx)) (fun x hx => hsp x (by simp [hx]))) (trodAll_cons_mk (shut_int Try.underlying3 wk) trodAll_mk0)) (fun _ _ => rfl) (by simp)
    (hg.frame _) hg.2.1 (ok_one (by kernel_rfl) rfl (okWide_bool_mk Try.underlying4 _))⟩
set_option maxRecDepth 100000 in
theorem lifted (os : Os) (started : os.Started) (H : Type) (enc : TypeId × Value → H) (F : Stop.Interp) :
    ReturnsInHanded {} Try.checked os 3 .any ((Rows.OpenSpec.upto Rows.framesBeginAtTheCoreSpec).pre6 enc Try.prog Try.f3 Rows.framesBeginAtTheCoreUptoRow.domain false) (((Rows.OpenSpec.upto Rows.framesBeginAtTheCoreSpec).at F).post enc Try.prog Try.f3 false true false false) := by
  refine returnsInHanded_of_cond (C := Try.checked) (s := Rows.OpenSpec.upto Rows.framesBeginAtTheCoreSpec) (k := Rows.uptoSmall) rfl own started (by kernel_rfl) Try.func3
    (OpenSpec.witness (enc := enc) (C := Try.checked) (s := Rows.OpenSpec.upto Rows.framesBeginAtTheCoreSpec) (k := Rows.uptoSmall) rfl false ⟨#[], #[.agg #[.slice none 0 0, .slice none 0 0, .slice none 0 0, .slice none 0 0, .bool false], .int .i64 0], []⟩ 8 (by kernel_rfl) (by kernel_rfl) (by kernel_rfl)
      (x := ([.agg [.nil, .nil, .nil, .nil, .lit (.bool false)], .lit (.int .i64 0)], [], [])) (by kernel_rfl) rfl (by kernel_rfl)) ?_
  intro W base args ds gs before hval hW _ hk _
  exact contract H enc W base args ds gs before hval hW hk
theorem over : Rows.framesBeginAtTheCoreUptoRow.holds Try.pinned (Rows.OpenSpec.upto Rows.framesBeginAtTheCoreSpec) :=
  OpenClaim.holds_of_cond 3 Try.f3 rfl rfl rfl rfl rfl rfl rfl ⟨rfl, rfl, rfl, rfl, rfl⟩ rfl rfl rfl rfl rfl (by kernel_rfl) Try.func3 (by kernel_rfl)
    (of_decide_eq_true (by kernel_rfl)) (by unfold Func.isWrapper; first | (rw [if_pos (by decide +kernel)]; kernel_rfl) | (rw [if_neg (by decide +kernel)]; exact ⟨rfl, rfl⟩))
    (fun os started H enc _ F => lifted os started H enc F)
theorem proved : Rows.FramesBeginAtTheCoreUptoSaid := over
#print axioms proved
end Go.Proofs.Ytkimkplgmifckaa.framesBegin
