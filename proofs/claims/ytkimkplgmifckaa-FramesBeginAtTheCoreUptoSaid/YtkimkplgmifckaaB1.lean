/-
  Part of the proof that FramesBeginAtTheCore returns true: contracts of small functions.
  No condition.
-/
import Derived.Test.YtkimkplgmifckaaA3
import Derived.Test.YtkimkplgmifckaaB0
set_option linter.unusedSimpArgs false
set_option linter.unusedVariables false
set_option maxRecDepth 20000
set_option maxHeartbeats 8000000
namespace Go.Den.Z
open Go.Proofs

set_option maxHeartbeats 1000000 in
theorem pendingCode_ok (x : Pnd) : ∃ c : Int, (c = 0 → (x.size = 1 ∨ x.size = 4) ∧ 0 ≤ x.addr ∧ x.addr ≤ 1048576 - x.size) ∧ PCalls P 41 [agg x.e] [] (iV c) := by
  obtain ⟨a, s, v⟩ := x
  show ∃ c : Int, _ ∧ PCalls P 41 [.ag [.c (.sc (.int .i64 a)), .c (.sc (.int .i64 s)), .c (.sc (.int .u32 v))]] [] (.c (.sc (.int .i64 c)))
  obtain ⟨oi, ob, op, os, on, or_, om, hω⟩ := shields
  have hi : ∀ f, oi f = f () := hω.i
  have hb : ∀ f, ob f = f () := hω.b
  have hp : ∀ f, op f = f () := hω.p
  refine PCalls.runE hmix hω q_buffer_pendingCode ?_
  unfold c_buffer_pendingCode
  conv => arg 4; cbv
  split
  · rename_i h
    simp only [h]
    conv => arg 4; cbv
    refine meanE_fin hω _ (by conv => lhs; cbv) ⟨rfl, rfl⟩ (fun h => by cases h) (fun e he => by cases he) ?_ ?_
    · simp only [bIf_rec, pIf_rec, bNot_rec, hb, hi, hp]; simp
    · simp
  · rename_i h
    simp only [h]
    conv => arg 4; cbv
    split
    · rename_i h2
      simp only [h2]
      conv => arg 4; cbv
      refine meanE_fin hω _ (by conv => lhs; cbv) ⟨rfl, rfl⟩ (fun h => by cases h) (fun e he => by cases he) ?_ ?_
      · simp only [bIf_rec, pIf_rec, bNot_rec, hb, hi, hp] at h ⊢; simp at h ⊢; omega
      · simp
    · rename_i h2
      simp only [h2]
      conv => arg 4; cbv
      simp only [bIf_rec, pIf_rec, bNot_rec, hb, hi, hp] at h h2
      simp at h h2
      refine meanE_fin hω _ (by conv => lhs; cbv) ⟨rfl, rfl⟩ ?_ (fun e he => by cases he) ?_ ?_
      · intro _
        have hs : s = 1 ∨ s = 4 := by omega
        have := wrap_i64 (n := 1048576 - s) (by omega)
        rw [this] at h2
        omega
      · simp only [bIf_rec, pIf_rec, bNot_rec, hb, hi, hp]; simp; omega
      · simp
end Go.Den.Z
namespace Go.Den.Z
open Go.Proofs

set_option maxHeartbeats 1000000 in
theorem bufferValidate_ok (x : Cor) (hx : x.Wf) : ∃ v : Int × Int, (v.1 = 0 → v.2 = 0 ∧ x.buf.length ≤ 4 ∧ ∀ (i : Nat) q, x.buf[i]? = some q → (q.size = 1 ∨ q.size = 4) ∧ 0 ≤ q.addr ∧ q.addr ≤ 1048576 - q.size) ∧ PCalls P 25 [agg x.e] [] (fltV v.1 v.2) := by
  obtain ⟨regs, vecs, flags, pc, tp, user, stopped, handler, cause, saved, buf⟩ := x
  have h8 := hx.regs.1
  have h16 := hx.vecs.1
  have hl := hx.buf.1
  clear hx
  simp only at h8 h16 hl ⊢
  obtain ⟨r0, r1, r2, r3, r4, r5, r6, r7, rfl⟩ := len8 h8
  obtain ⟨v0, v1, v2, v3, v4, v5, v6, v7, v8, v9, u0, u1, u2, u3, u4, u5, rfl⟩ := len16 h16
  simp only [agg, Cor.e, List.map_cons, List.map_nil, List.cons_append, List.nil_append, fltV]
  generalize hbuf : buf.map Pnd.e = rbuf
  have hlen : rbuf.length = buf.length := by rw [← hbuf]; simp
  obtain ⟨oi, ob, op, os, on, or_, om, hω⟩ := shields
  have hi : ∀ f, oi f = f () := hω.i
  have hb : ∀ f, ob f = f () := hω.b
  have hp : ∀ f, op f = f () := hω.p
  refine PCalls.runE hmix hω q_buffer_Validate ?_
  unfold c_buffer_Validate
  conv => arg 4; cbv
  split
  · rename_i h
    simp only [h]
    conv => arg 4; cbv
    refine meanE_fin hω (3, -1) (by conv => lhs; cbv) ?_ (fun h => by cases h) (fun e he => by cases he) ?_ ?_
    · exact ⟨rfl, rfl⟩
    · simp only [bIf_rec, pIf_rec, bNot_rec, hb, hi, hp]; simp
    · simp
  · rename_i h
    simp only [h]
    conv => arg 4; cbv
    split
    · rename_i h2
      simp only [h2]
      conv => arg 4; cbv
      refine meanE_fin hω (2, -1) (by conv => lhs; cbv) ?_ (fun h => by cases h) (fun e he => by cases he) ?_ ?_
      · exact ⟨rfl, rfl⟩
      · simp only [bIf_rec, pIf_rec, bNot_rec, hb, hi, hp]; simp
      · simp
    · rename_i h2
      simp only [h2]
      conv => arg 4; cbv
      simp only [bIf_rec, hb, hi] at h h2
      simp at h h2
      obtain ⟨x, hx⟩ := counter 0
      refine meanE_loop hω [1, 2, 33, 34, 35] 2 buf.length (fun j => ∀ q, buf[j]? = some q → (q.size = 1 ∨ q.size = 4) ∧ 0 ≤ q.addr ∧ q.addr ≤ 1048576 - q.size)
        (fun i => { t := slots 49 [(1, .op 0 0 0), (2, .op 1 0 0), (33, .c (.sl rbuf)), (34, iV (oi fun _ => Int.ofNat rbuf.length)), (35, iV (x i))], B := [], L := [.mem 33 [[wV r0, wV r1, wV r2, wV r3, wV r4, wV r5, wV r6, wV r7, wV v0, wV v1, wV v2, wV v3, wV v4, wV v5, wV v6, wV v7, wV v8, wV v9, wV u0, wV u1, wV u2, wV u3, wV u4, wV u5, iV flags, wV pc, wV tp, bV user, bV stopped, wV handler, iV cause, wV saved, .c (.sl rbuf)]], .mem 2 [[iV 0, iV 0]]] })
        ?_ (fun e he => by cases he) ?_ ?_ ?_
      · simp only [hx 0]; rfl
      · cbv
      · simp only [bIf_rec, pIf_rec, bNot_rec, hb, hi, hp]; simp
      · intro i hiN hok
        conv => arg 4; cbv
        have hxi : x i = i := by rw [hx]; omega
        split
        · rename_i h3
          simp only [h3]
          simp only [hb, hi, decide_eq_true_eq, Int.ofNat_eq_natCast] at h3
          conv => arg 4; cbv
          obtain ⟨q, hq, hq2⟩ := map_get Pnd.e buf (i := x i) (by omega) (by omega)
          rw [hbuf] at hq2
          have hcall := pendingCode_ok q
          obtain ⟨qa, qs, qv⟩ := q
          refine meanE_elem hω _ (by omega) hq2 rfl ?_ ?_
          · simp
          conv => arg 4; cbv
          obtain ⟨c, hc, hcall⟩ := hcall
          refine meanE_call hω (hcall.any ⟨⟨trivial, trivial, trivial, trivial⟩, trivial⟩ trivial _) ?_ ?_
          · simp
          conv => arg 4; cbv
          split
          · rename_i h4
            simp only [h4]
            conv => arg 4; cbv
            rw [hb] at h4
            simp at h4
            refine round_out hω ?_ (fun h => by cases h) ?_
            · conv => arg 4; cbv
              refine meanE_fin hω (c, x i) (by conv => lhs; cbv) ?_ (fun h => absurd h h4) (fun e he => by cases he) ?_ ?_
              · exact ⟨rfl, rfl⟩
              · simp
              · simp
            · simp
          · rename_i h4
            simp only [h4]
            conv => arg 4; cbv
            rw [hb] at h4
            simp at h4
            have hnx : (oi fun _ => IntKind.wrap .i64 (x i + 1)) = x (i + 1) := by
              rw [hi, hx, hx, wrap_i64 (by omega)]
              push_cast
              omega
            refine round_next ?_ ?_ ?_ (fun e he => by cases he) ?_ ?_
            · simp only [hnx]; rfl
            · omega
            · intro q hq'
              have : buf[i]? = some ⟨qa, qs, qv⟩ := by rw [← hq]; congr 1; omega
              rw [this] at hq'
              cases hq'
              exact hc h4
            · cbv
            · simp
        · rename_i h3
          simp only [h3]
          simp only [hb, hi, decide_eq_false_iff_not, Int.ofNat_eq_natCast] at h3
          conv => arg 4; cbv
          refine round_out hω ?_ (fun h => by cases h) ?_
          · conv => arg 4; cbv
            refine meanE_fin hω (0, 0) (by conv => lhs; cbv) ?_ (fun _ => ⟨rfl, by omega, fun j q hq => hok j ?_ q hq⟩) (fun e he => by cases he) ?_ ?_
            · exact ⟨rfl, rfl⟩
            · have := lt_of_get hq; omega
            · simp
            · simp
          · simp
end Go.Den.Z
namespace Go.Den.Z
open Go.Proofs
theorem when_ok (b : Bool) (n : Int) : ∃ c : Int, (c = 0 → b = true → n = 0) ∧ PCalls P 64 [bV b, iV n] [] (iV c) := by
  obtain ⟨oi, ob, op, os, on, or_, om, hω⟩ := shields
  have hi : ∀ f, oi f = f () := hω.i
  have hb : ∀ f, ob f = f () := hω.b
  have hp : ∀ f, op f = f () := hω.p
  have hs : ∀ f, os f = f () := hω.s
  have hr : ∀ f, or_ f = f () := hω.r
  refine PCalls.runE hmix hω q_image_when ?_
  unfold c_image_when
  repeat' first
    | (refine meanE_id ?_; conv => arg 4; cbv)
    | (refine finInt hω (by conv => lhs; cbv) ?_ (fun e he => by cases he) ?_ ?_)
    | (split <;> (rename_i h; simp only [h]; (try simp only [bIf_rec, pIf_rec, bNot_rec, hb, hi, hp, Int.ofNat_eq_natCast] at h); (try simp at h)))
    | (split <;> skip)
  all_goals first | omega | (simp; done) | (simp only [hi]; (try rw [wrap_i64 (by omega)]); omega) | (simp only [bIf_rec, pIf_rec, bNot_rec, hb, hi, hp, Int.ofNat_eq_natCast]; simp; done) | (simp; omega) | (simp only [bIf_rec, pIf_rec, bNot_rec, hb, hi, hp, Int.ofNat_eq_natCast]; simp; omega) | skip

theorem unwindRow_ok (x : Img) (y : RImg) (hy : y = x.r) (k : Int) (h0 : 0 ≤ k) (h1 : k < x.unw.length) (h2 : x.unw.length < 9223372036854775807) : ∃ c : Int, (c = 0 → ∀ q, x.unw[k.toNat]? = some q → -1 ≤ q.reg ∧ q.reg ≤ 7 ∧ 0 ≤ q.off ∧ q.off ≤ 1048576 ∧ -1048576 ≤ q.add ∧ q.add ≤ 1048576 ∧ -1048576 ≤ q.saved ∧ q.saved ≤ 0) ∧ PCalls P 88 [agg y.e, iV k] [] (iV c) := by
  obtain ⟨name, shared, segs, entry, exps, imps, fixs, thr, thrSize, inits, finis, needs, id, lines, unw, files, types, vars, places⟩ := y
  have hunw : unw = x.unw.map UnwR.e := congrArg RImg.unw hy
  have lunw : unw.length = x.unw.length := by rw [hunw]; simp
  obtain ⟨oi, ob, op, os, on, or_, om, hω⟩ := shields
  have hi : ∀ f, oi f = f () := hω.i
  have hb : ∀ f, ob f = f () := hω.b
  have hp : ∀ f, op f = f () := hω.p
  have hs : ∀ f, os f = f () := hω.s
  have hr : ∀ f, or_ f = f () := hω.r
  refine PCalls.runE hmix hω q_image_unwindRow ?_
  unfold c_image_unwindRow
  repeat' first
    | (refine meanE_id ?_; conv => arg 4; cbv)
    | (refine finInt hω (by conv => lhs; cbv) ?_ (fun e he => by cases he) ?_ ?_)
    | (refine callE hω (when_ok _ _) (by simp [undL, AV.und, agg]) (fun v => by simp [AV.und, undL, iV, bV, fltV, agg]) ?_ fun v hv => ?_)
    | (refine callGE hω (when_ok _ _) (by simp [undL, AV.und, agg]) (fun v => by simp [AV.und, undL, iV, bV, fltV, agg]) ?_ fun v hv => ?_)
    | (refine callQE hω (when_ok _ _) (by simp [undL, AV.und, agg]) (fun v => by simp [AV.und, undL, iV, bV, fltV, agg]) ?_ fun v hv => ?_)
    | (refine elemM hω hunw ?_ ?_ (fun _ => rfl) ?_ fun q hq => ?_; rotate_left 3; obtain ⟨uo, ur, ua, us⟩ := q)
    | (split <;> (rename_i h; simp only [h]; (try simp only [bIf_rec, pIf_rec, bNot_rec, hb, hi, hp, Int.ofNat_eq_natCast] at h); (try simp at h)))
    | (split <;> skip)
  all_goals first | omega | (simp; done) | (simp only [hi]; (try rw [wrap_i64 (by omega)]); omega) | (simp only [bIf_rec, pIf_rec, bNot_rec, hb, hi, hp, Int.ofNat_eq_natCast]; simp; done) | (simp; omega) | (simp only [bIf_rec, pIf_rec, bNot_rec, hb, hi, hp, Int.ofNat_eq_natCast]; simp; omega) | (have hh := ‹x.unw[k.toNat]? = some _›; intro hc q hq0; rw [hh] at hq0; cases hq0; simp at hc ⊢; omega) | (intro hc q hq0; simp at hc)  | skip

theorem line_ok (x : Img) (y : RImg) (hy : y = x.r) (k : Int) (h0 : 0 ≤ k) (h1 : k < x.lines.length) (h2 : x.lines.length < 9223372036854775807) : ∃ c : Int, (c = 0 → True) ∧ PCalls P 85 [agg y.e, iV k] [] (iV c) := by
  obtain ⟨name, shared, segs, entry, exps, imps, fixs, thr, thrSize, inits, finis, needs, id, lines, unw, files, types, vars, places⟩ := y
  have hlines : lines = x.lines.map LineR.e := congrArg RImg.lines hy
  have llines : lines.length = x.lines.length := by rw [hlines]; simp
  have hfiles : files = x.files.map eS := congrArg RImg.files hy
  have lfiles : files.length = x.files.length := by rw [hfiles]; simp
  obtain ⟨oi, ob, op, os, on, or_, om, hω⟩ := shields
  have hi : ∀ f, oi f = f () := hω.i
  have hb : ∀ f, ob f = f () := hω.b
  have hp : ∀ f, op f = f () := hω.p
  have hs : ∀ f, os f = f () := hω.s
  have hr : ∀ f, or_ f = f () := hω.r
  refine PCalls.runE hmix hω q_image_line ?_
  unfold c_image_line
  repeat' first
    | (refine meanE_id ?_; conv => arg 4; cbv)
    | (refine finInt hω (by conv => lhs; cbv) ?_ (fun e he => by cases he) ?_ ?_)
    | (refine callE hω (when_ok _ _) (by simp [undL, AV.und, agg]) (fun v => by simp [AV.und, undL, iV, bV, fltV, agg]) ?_ fun v hv => ?_)
    | (refine callGE hω (when_ok _ _) (by simp [undL, AV.und, agg]) (fun v => by simp [AV.und, undL, iV, bV, fltV, agg]) ?_ fun v hv => ?_)
    | (refine callQE hω (when_ok _ _) (by simp [undL, AV.und, agg]) (fun v => by simp [AV.und, undL, iV, bV, fltV, agg]) ?_ fun v hv => ?_)
    | (refine elemM hω hlines ?_ ?_ (fun _ => rfl) ?_ fun q hq => ?_; rotate_left 3; obtain ⟨uo, ur, ua⟩ := q)
    | (split <;> (rename_i h; simp only [h]; (try simp only [bIf_rec, pIf_rec, bNot_rec, hb, hi, hp, Int.ofNat_eq_natCast] at h); (try simp at h)))
    | (split <;> skip)
  all_goals first | omega | (simp; done) | (simp only [hi]; (try rw [wrap_i64 (by omega)]); omega) | (simp only [bIf_rec, pIf_rec, bNot_rec, hb, hi, hp, Int.ofNat_eq_natCast]; simp; done) | (simp; omega) | (simp only [bIf_rec, pIf_rec, bNot_rec, hb, hi, hp, Int.ofNat_eq_natCast]; simp; omega) | (have hh := ‹x.unw[k.toNat]? = some _›; intro hc q hq0; rw [hh] at hq0; cases hq0; simp at hc ⊢; omega) | (intro hc q hq0; simp at hc)  | skip

end Go.Den.Z
namespace Go.Den
def firstIdx (g : Nat → Bool) (n : Nat) : Int := match (List.range n).find? g with | some i => i | none => -1
theorem firstIdx_none {g : Nat → Bool} {n : Nat} (h : ∀ j, j < n → g j = false) : firstIdx g n = -1 := by
  unfold firstIdx
  rw [List.find?_eq_none.2 (fun x hx => by simp [h x (List.mem_range.1 hx)])]
theorem firstIdx_some {g : Nat → Bool} {n i : Nat} (hi : i < n) (h : ∀ j, j < i → g j = false) (hg : g i = true) : firstIdx g n = i := by
  unfold firstIdx
  have : (List.range n).find? g = some i := by
    rw [List.find?_range_eq_some]
    exact ⟨hg, by simpa using hi, fun j hj => by simp [h j hj]⟩
  rw [this]
end Go.Den
namespace Go.Den.Z
open Go.Proofs
theorem indexSeg_ok {τ : Type} (l : List τ) (e : τ → List CV) (rows : List (List CV)) (hrows : rows = l.map e) (hsz : ∀ x, (e x).length = 4) (he : ∀ x, ∃ a b c d, e x = [a, b, c, d]) (f : FuncId) (caps : List AV) (H : List Ent) (hH : ∀ e ∈ H, Ent.und H.length e) (hcaps : undL H.length caps) (hlen : l.length < 9223372036854775807) (g : Nat → Bool)
    (hg : ∀ i x, l[i]? = some x → PCalls P f (agg (e x) :: caps) H (bV (g i))) : ∃ c : Int, c = firstIdx g l.length ∧ PCalls P 111 [.c (.sl rows), .fn f caps] H (iV c) := by
  obtain ⟨oi, ob, op, os, on, or_, om, hω⟩ := shields
  have hi : ∀ f, oi f = f () := hω.i
  have hb : ∀ f, ob f = f () := hω.b
  have hp : ∀ f, op f = f () := hω.p
  have hll : rows.length = l.length := by rw [hrows]; simp
  refine PCalls.runE hmix hω q_slices_IndexFunc_api_Segment_api_Segment ?_
  unfold c_slices_IndexFunc_api_Segment_api_Segment
  conv => arg 4; cbv
  obtain ⟨x, hx⟩ := counter 0
  refine meanE_loop hω [0, 1, 7, 8] 0 l.length (fun j => g j = false)
    (fun i => { t := slots 19 [(0, .c (.sl rows)), (1, .fn f caps), (7, iV (oi fun _ => Int.ofNat rows.length)), (8, iV (x i))], B := H, L := [] }) ?_ hH ?_ ?_ ?_
  · simp only [hx 0]; rfl
  · simp [FgtOk, undT, undEs, AV.und, hcaps]
  · trivial
  · intro i hiN hok
    have hxi : x i = i := by rw [hx]; omega
    conv => arg 4; cbv
    split
    · rename_i h3
      simp only [h3]
      simp only [hb, hi, decide_eq_true_eq, Int.ofNat_eq_natCast] at h3
      conv => arg 4; cbv
      refine elemM hω hrows (by omega) (by omega) hsz trivial fun q hq => ?_
      have hgi := hg (x i).toNat q hq
      obtain ⟨a, b, c, d, hq4⟩ := he q
      rw [hq4] at hgi ⊢
      have hti : (x i).toNat = i := by omega
      rw [hti] at hgi
      conv => arg 4; cbv
      refine meanE_call hω (r := bV (g i)) ?_ ?_ ?_
      · simpa [agg] using hgi
      · trivial
      generalize hgg : g i = gi at *
      conv => arg 4; cbv
      cases gi
      · conv => arg 4; cbv
        have hnx : (oi fun _ => IntKind.wrap .i64 (x i + 1)) = x (i + 1) := by
          rw [hi, hx, hx, wrap_i64 (by omega)]
          push_cast
          omega
        refine round_next ?_ (by omega) hgg hH ?_ ?_
        · simp only [hnx]; rfl
        · simp [FgtOk, undT, undEs, AV.und, hcaps]
        · trivial
      · conv => arg 4; cbv
        refine round_out hω ?_ (fun h => by cases h) trivial
        conv => arg 4; cbv
        refine finInt hω (by conv => lhs; cbv) ?_ hH ?_ ?_
        · rw [firstIdx_some (by omega) hok hgg, hxi]
        · trivial
        · simp
    · rename_i h3
      simp only [h3]
      simp only [hb, hi, decide_eq_false_iff_not, Int.ofNat_eq_natCast] at h3
      conv => arg 4; cbv
      refine round_out hω ?_ (fun h => by cases h) trivial
      conv => arg 4; cbv
      refine finInt hω (by conv => lhs; cbv) ?_ hH ?_ ?_
      · rw [firstIdx_none fun j hj => hok j (by omega)]
      · trivial
      · simp
end Go.Den.Z
namespace Go.Den.Z
open Go.Proofs
theorem containsSeg_ok {τ : Type} (l : List τ) (e : τ → List CV) (rows : List (List CV)) (hrows : rows = l.map e) (hsz : ∀ x, (e x).length = 4) (he : ∀ x, ∃ a b c d, e x = [a, b, c, d]) (f : FuncId) (caps : List AV) (H : List Ent) (hH : ∀ e ∈ H, Ent.und H.length e) (hcaps : undL H.length caps) (hlen : l.length < 9223372036854775807) (g : Nat → Bool)
    (hg : ∀ i x, l[i]? = some x → PCalls P f (agg (e x) :: caps) H (bV (g i))) : ∃ c : Bool, c = decide (0 ≤ firstIdx g l.length) ∧ PCalls P 103 [.c (.sl rows), .fn f caps] H (bV c) := by
  obtain ⟨oi, ob, op, os, on, or_, om, hω⟩ := shields
  have hi : ∀ f, oi f = f () := hω.i
  have hb : ∀ f, ob f = f () := hω.b
  obtain ⟨c, hc, hcall⟩ := indexSeg_ok l e rows hrows hsz he f caps H hH hcaps hlen g hg
  refine PCalls.runE hmix hω q_slices_ContainsFunc_api_Segment_api_Segment ?_
  unfold c_slices_ContainsFunc_api_Segment_api_Segment
  conv => arg 4; cbv
  refine meanE_call hω (r := iV c) ?_ trivial ?_
  · simpa using hcall
  conv => arg 4; cbv
  refine finBool hω (by conv => lhs; cbv) ?_ hH trivial ?_
  · rw [hb, hc]
  · simp
end Go.Den.Z
namespace Go.Den
def segHas (s : Seg) (a z r : Int) : Bool := (bitsOf .and .i64 s.rights r == r) && decide (s.addr ≤ a) && decide (z ≤ s.size) && decide (a ≤ IntKind.wrap .i64 (IntKind.wrap .i64 (s.addr + s.size) - z))
def withinF (segs : List Seg) (a z r : Int) : Bool := decide (0 ≤ firstIdx (fun i => (segs[i]?).elim false fun s => segHas s a z r) segs.length)
end Go.Den
namespace Go.Den.Z
open Go.Proofs
theorem within1_ok (s : Seg) (a z r : Int) (E : Ent) (hE : Ent.und 4 E) : ∃ c : Bool, c = segHas s a z r ∧ PCalls P 104 [agg s.e, .op 3 0 0, .op 1 0 0, .op 2 0 0] [E, .mem 1 [[iV a]], .mem 1 [[iV z]], .mem 1 [[iV r]]] (bV c) := by
  obtain ⟨sa, sz, sr, sd⟩ := s
  simp only [agg, Seg.e, List.map_cons, List.map_nil]
  generalize sd.map eY = rd
  obtain ⟨oi, ob, op, os, on, or_, om, hω⟩ := shields
  have hi : ∀ f, oi f = f () := hω.i
  have hb : ∀ f, ob f = f () := hω.b
  have hp : ∀ f, op f = f () := hω.p
  refine PCalls.runE hmix hω q_image_within_1 ?_
  unfold c_image_within_1
  conv => arg 4; cbv
  refine finBool hω (by (conv => lhs; cbv); all_goals rfl) ?_ ?_ ?_ ?_
  · simp only [bIf_rec, pIf_rec, bNot_rec, hb, hi, hp, segHas]
    simp [cond_eq_ite]
    grind
  · intro e he
    simp at he
    rcases he with rfl | rfl | rfl | rfl
    · exact hE
    all_goals simp [Ent.und, undL, AV.und, iV]
  · simp only [bIf_rec, pIf_rec, bNot_rec, hb, hi, hp]; simp
  · simp
theorem within_ok (x : Img) (y : RImg) (hy : y = x.r) (hlen : x.segs.length < 9223372036854775807) (a z r : Int) : ∃ c : Bool, c = withinF x.segs a z r ∧ PCalls P 65 [agg y.e, iV a, iV z, iV r] [] (bV c) := by
  obtain ⟨name, shared, segs, entry, exps, imps, fixs, thr, thrSize, inits, finis, needs, id, lines, unw, files, types, vars, places⟩ := y
  have hsegs : segs = x.segs.map Seg.e := congrArg RImg.segs hy
  obtain ⟨oi, ob, op, os, on, or_, om, hω⟩ := shields
  have hi : ∀ f, oi f = f () := hω.i
  have hb : ∀ f, ob f = f () := hω.b
  have hp : ∀ f, op f = f () := hω.p
  refine PCalls.runE hmix hω q_image_within ?_
  unfold c_image_within
  conv => arg 4; cbv
  obtain ⟨c, hc, hcall⟩ := containsSeg_ok x.segs Seg.e segs hsegs (fun _ => rfl) (fun _ => ⟨_, _, _, _, rfl⟩) 104 [.op 3 0 0, .op 1 0 0, .op 2 0 0]
    [.mem 19 [(RImg.e ⟨name, shared, segs, entry, exps, imps, fixs, thr, thrSize, inits, finis, needs, id, lines, unw, files, types, vars, places⟩).map .c], .mem 1 [[iV a]], .mem 1 [[iV z]], .mem 1 [[iV r]]]
    (by
      intro e he
      simp at he
      rcases he with rfl | rfl | rfl | rfl
      all_goals simp [Ent.und, undL, AV.und, iV, RImg.e])
    (by simp [undL, AV.und]) hlen (fun i => (x.segs[i]?).elim false fun s => segHas s a z r) (fun i s hs => by
      obtain ⟨c, hc, h⟩ := within1_ok s a z r (.mem 19 [(RImg.e ⟨name, shared, segs, entry, exps, imps, fixs, thr, thrSize, inits, finis, needs, id, lines, unw, files, types, vars, places⟩).map .c]) (by simp [Ent.und, undL, AV.und, RImg.e])
      simp only [hs, Option.elim]
      rw [← hc]
      exact h)
  refine meanE_call hω (r := bV c) hcall trivial ?_
  conv => arg 4; cbv
  refine finBool hω (by (conv => lhs; cbv); all_goals rfl) hc (fun e he => by cases he) trivial ?_
  simp
end Go.Den.Z
namespace Go.Den.Z
open Go.Proofs
theorem isDigit_ok (n : Int) : ∃ c : Bool, True ∧ PCalls P 118 [yV n] [] (bV c) := by
  obtain ⟨oi, ob, op, os, on, or_, om, hω⟩ := shields
  have hi : ∀ f, oi f = f () := hω.i
  have hb : ∀ f, ob f = f () := hω.b
  have hp : ∀ f, op f = f () := hω.p
  have hs : ∀ f, os f = f () := hω.s
  have hr : ∀ f, or_ f = f () := hω.r
  refine PCalls.runE hmix hω q_token_isDigit ?_
  unfold c_token_isDigit
  repeat' first
    | (refine meanE_id ?_; conv => arg 4; cbv)
    | (refine finBool hω (by conv => lhs; cbv) ?_ (fun e he => by cases he) ?_ ?_)
    | (split <;> (rename_i h; simp only [h]; (try simp only [bIf_rec, pIf_rec, bNot_rec, hb, hi, hp, Int.ofNat_eq_natCast] at h); (try simp at h)))
    | (split <;> skip)
  all_goals first | omega | (simp; done) | (simp only [hi]; (try rw [wrap_i64 (by omega)]); omega) | (simp only [bIf_rec, pIf_rec, bNot_rec, hb, hi, hp, Int.ofNat_eq_natCast]; simp; done) | (simp; omega) | (simp only [bIf_rec, pIf_rec, bNot_rec, hb, hi, hp, Int.ofNat_eq_natCast]; simp; omega) | skip

theorem isNaNs_ok (s : ByteArray) : ∃ c : Bool, (c = false) ∧ PCalls P 116 [sV s] [] (bV c) := by
  obtain ⟨oi, ob, op, os, on, or_, om, hω⟩ := shields
  have hi : ∀ f, oi f = f () := hω.i
  have hb : ∀ f, ob f = f () := hω.b
  have hp : ∀ f, op f = f () := hω.p
  have hs : ∀ f, os f = f () := hω.s
  have hr : ∀ f, or_ f = f () := hω.r
  refine PCalls.runE hmix hω q_cmp_isNaN_string ?_
  unfold c_cmp_isNaN_string
  repeat' first
    | (refine meanE_id ?_; conv => arg 4; cbv)
    | (refine finBool hω (by conv => lhs; cbv) ?_ (fun e he => by cases he) ?_ ?_)
    | (split <;> (rename_i h; simp only [h]; (try simp only [bIf_rec, pIf_rec, bNot_rec, hb, hi, hp, Int.ofNat_eq_natCast] at h); (try simp at h)))
    | (split <;> skip)
  all_goals first | omega | (simp; done) | (simp only [hi]; (try rw [wrap_i64 (by omega)]); omega) | (simp only [bIf_rec, pIf_rec, bNot_rec, hb, hi, hp, Int.ofNat_eq_natCast]; simp; done) | (simp; omega) | (simp only [bIf_rec, pIf_rec, bNot_rec, hb, hi, hp, Int.ofNat_eq_natCast]; simp; omega) | skip

theorem isNaNi_ok (n : Int) : ∃ c : Bool, (c = false) ∧ PCalls P 99 [iV n] [] (bV c) := by
  obtain ⟨oi, ob, op, os, on, or_, om, hω⟩ := shields
  have hi : ∀ f, oi f = f () := hω.i
  have hb : ∀ f, ob f = f () := hω.b
  have hp : ∀ f, op f = f () := hω.p
  have hs : ∀ f, os f = f () := hω.s
  have hr : ∀ f, or_ f = f () := hω.r
  refine PCalls.runE hmix hω q_cmp_isNaN_int ?_
  unfold c_cmp_isNaN_int
  repeat' first
    | (refine meanE_id ?_; conv => arg 4; cbv)
    | (refine finBool hω (by conv => lhs; cbv) ?_ (fun e he => by cases he) ?_ ?_)
    | (split <;> (rename_i h; simp only [h]; (try simp only [bIf_rec, pIf_rec, bNot_rec, hb, hi, hp, Int.ofNat_eq_natCast] at h); (try simp at h)))
    | (split <;> skip)
  all_goals first | omega | (simp; done) | (simp only [hi]; (try rw [wrap_i64 (by omega)]); omega) | (simp only [bIf_rec, pIf_rec, bNot_rec, hb, hi, hp, Int.ofNat_eq_natCast]; simp; done) | (simp; omega) | (simp only [bIf_rec, pIf_rec, bNot_rec, hb, hi, hp, Int.ofNat_eq_natCast]; simp; omega) | (rw [hb]; simp) | skip

theorem cmpS_ok (s t : ByteArray) : ∃ c : Int, True ∧ PCalls P 113 [sV s, sV t] [] (iV c) := by
  obtain ⟨oi, ob, op, os, on, or_, om, hω⟩ := shields
  have hi : ∀ f, oi f = f () := hω.i
  have hb : ∀ f, ob f = f () := hω.b
  have hp : ∀ f, op f = f () := hω.p
  have hs : ∀ f, os f = f () := hω.s
  have hr : ∀ f, or_ f = f () := hω.r
  refine PCalls.runE hmix hω q_cmp_Compare_string ?_
  unfold c_cmp_Compare_string
  repeat' first
    | (refine meanE_id ?_; conv => arg 4; cbv)
    | (refine finInt hω (by conv => lhs; cbv) ?_ (fun e he => by cases he) ?_ ?_)
    | (refine callE hω (isNaNs_ok _) (by simp [undL, AV.und, agg]) (fun v => by simp [AV.und, undL, iV, bV, fltV, agg]) ?_ fun v hv => ?_)
    | (refine callGE hω (isNaNs_ok _) (by simp [undL, AV.und, agg]) (fun v => by simp [AV.und, undL, iV, bV, fltV, agg]) ?_ fun v hv => ?_)
    | (refine callQE hω (isNaNs_ok _) (by simp [undL, AV.und, agg]) (fun v => by simp [AV.und, undL, iV, bV, fltV, agg]) ?_ fun v hv => ?_)
    | (split <;> (rename_i h; simp only [h]; (try simp only [bIf_rec, pIf_rec, bNot_rec, hb, hi, hp, Int.ofNat_eq_natCast] at h); (try simp at h)))
    | (split <;> skip)
  all_goals first | omega | (simp; done) | (simp only [hi]; (try rw [wrap_i64 (by omega)]); omega) | (simp only [bIf_rec, pIf_rec, bNot_rec, hb, hi, hp, Int.ofNat_eq_natCast]; simp; done) | (simp; omega) | (simp only [bIf_rec, pIf_rec, bNot_rec, hb, hi, hp, Int.ofNat_eq_natCast]; simp; omega) | skip

theorem cmpI_ok (a b : Int) : ∃ c : Int, (c = if a < b then -1 else if b < a then 1 else 0) ∧ PCalls P 58 [iV a, iV b] [] (iV c) := by
  obtain ⟨oi, ob, op, os, on, or_, om, hω⟩ := shields
  have hi : ∀ f, oi f = f () := hω.i
  have hb : ∀ f, ob f = f () := hω.b
  have hp : ∀ f, op f = f () := hω.p
  have hs : ∀ f, os f = f () := hω.s
  have hr : ∀ f, or_ f = f () := hω.r
  refine PCalls.runE hmix hω q_cmp_Compare_int ?_
  unfold c_cmp_Compare_int
  repeat' first
    | (refine meanE_id ?_; conv => arg 4; cbv)
    | (refine finInt hω (by conv => lhs; cbv) ?_ (fun e he => by cases he) ?_ ?_)
    | (refine callE hω (isNaNi_ok _) (by simp [undL, AV.und, agg]) (fun v => by simp [AV.und, undL, iV, bV, fltV, agg]) ?_ fun v hv => ?_)
    | (refine callGE hω (isNaNi_ok _) (by simp [undL, AV.und, agg]) (fun v => by simp [AV.und, undL, iV, bV, fltV, agg]) ?_ fun v hv => ?_)
    | (refine callQE hω (isNaNi_ok _) (by simp [undL, AV.und, agg]) (fun v => by simp [AV.und, undL, iV, bV, fltV, agg]) ?_ fun v hv => ?_)
    | (split <;> (rename_i h; simp only [h]; (try simp only [bIf_rec, pIf_rec, bNot_rec, hb, hi, hp, Int.ofNat_eq_natCast] at h); (try simp at h)))
    | (split <;> skip)
  all_goals first | omega | (simp; done) | (simp only [hi]; (try rw [wrap_i64 (by omega)]); omega) | (simp only [bIf_rec, pIf_rec, bNot_rec, hb, hi, hp, Int.ofNat_eq_natCast]; simp; done) | (simp; omega) | (simp only [bIf_rec, pIf_rec, bNot_rec, hb, hi, hp, Int.ofNat_eq_natCast]; simp; omega) | (simp_all) | skip

theorem up_ok (a b : Int) (h0 : 0 ≤ a) (h1 : a ≤ 9223372036854000000) (hb1 : b = 256) : ∃ c : Int, (c = (a + b - 1) / b * b) ∧ PCalls P 110 [iV a, iV b] [] (iV c) := by
  obtain ⟨oi, ob, op, os, on, or_, om, hω⟩ := shields
  have hi : ∀ f, oi f = f () := hω.i
  have hb : ∀ f, ob f = f () := hω.b
  have hp : ∀ f, op f = f () := hω.p
  have hs : ∀ f, os f = f () := hω.s
  have hr : ∀ f, or_ f = f () := hω.r
  refine PCalls.runE hmix hω q_thread_Up ?_
  unfold c_thread_Up
  repeat' first
    | (refine meanE_id ?_; conv => arg 4; cbv)
    | (refine finInt hω (by conv => lhs; cbv) ?_ (fun e he => by cases he) ?_ ?_)
    | (split <;> (rename_i h; simp only [h]; (try simp only [bIf_rec, pIf_rec, bNot_rec, hb, hi, hp, Int.ofNat_eq_natCast] at h); (try simp at h)))
    | (split <;> skip)
  all_goals first | omega | (simp; done) | (simp only [hi]; (try rw [wrap_i64 (by omega)]); omega) | (simp only [bIf_rec, pIf_rec, bNot_rec, hb, hi, hp, Int.ofNat_eq_natCast]; simp; done) | (simp; omega) | (simp only [bIf_rec, pIf_rec, bNot_rec, hb, hi, hp, Int.ofNat_eq_natCast]; simp; omega) | (subst hb1; simp only [hi]; rw [wrap_i64 (n := a + 256) (by omega), wrap_i64 (n := a + 256 - 1) (by omega), Int.tdiv_eq_ediv_of_nonneg (by omega), wrap_i64 (n := (a + 256 - 1) / 256) (by omega), wrap_i64 (by omega)]) | skip

end Go.Den.Z
namespace Go.Den.Z
open Go.Proofs
theorem or_ok (l : List Int) (rows : List (List CV)) (hrows : rows = l.map eI) (hlen : l.length < 9223372036854775807) : ∃ c : Int, True ∧ PCalls P 112 [.c (.sl rows)] [] (iV c) := by
  obtain ⟨oi, ob, op, os, on, or_, om, hω⟩ := shields
  have hi : ∀ f, oi f = f () := hω.i
  have hb : ∀ f, ob f = f () := hω.b
  have hp : ∀ f, op f = f () := hω.p
  have hll : rows.length = l.length := by rw [hrows]; simp
  refine PCalls.runE hmix hω q_cmp_Or_int ?_
  unfold c_cmp_Or_int
  conv => arg 4; cbv
  obtain ⟨x, hx⟩ := counter 0
  refine meanE_loop hω [3, 6, 7, 8] 0 l.length (fun j => True)
    (fun i => { t := slots 18 [(3, iV 0), (6, .c (.sl rows)), (7, iV (oi fun _ => Int.ofNat rows.length)), (8, iV (x i))], B := [], L := [] }) ?_ (fun e he => by cases he) ?_ ?_ ?_
  · simp only [hx 0]; rfl
  · simp [FgtOk, undT, undEs, AV.und]
  · trivial
  · intro i hiN hok
    have hxi : x i = i := by rw [hx]; omega
    conv => arg 4; cbv
    split
    · rename_i h3
      simp only [h3]
      simp only [hb, hi, decide_eq_true_eq, Int.ofNat_eq_natCast] at h3
      conv => arg 4; cbv
      refine elemM hω hrows (by omega) (by omega) (fun _ => rfl) trivial fun q hq => ?_
      conv => arg 4; cbv
      split
      · rename_i h4
        simp only [h4]
        conv => arg 4; cbv
        refine round_out hω ?_ (fun h => by cases h) (by simp)
        conv => arg 4; cbv
        refine finInt hω (by conv => lhs; cbv) trivial (fun e he => by cases he) trivial ?_
        · simp
      · rename_i h4
        simp only [h4]
        conv => arg 4; cbv
        have hnx : (oi fun _ => IntKind.wrap .i64 (x i + 1)) = x (i + 1) := by
          rw [hi, hx, hx, wrap_i64 (by omega)]
          push_cast
          omega
        refine round_next ?_ (by omega) trivial (fun e he => by cases he) ?_ ?_
        · simp only [hnx]; rfl
        · simp [FgtOk, undT, undEs, AV.und]
        · simp
    · rename_i h3
      simp only [h3]
      conv => arg 4; cbv
      refine round_out hω ?_ (fun h => by cases h) trivial
      conv => arg 4; cbv
      refine finInt hω (by conv => lhs; cbv) trivial (fun e he => by cases he) trivial ?_
      simp
theorem isName_ok (s : ByteArray) (hlen : s.size < 9223372036854775807) : ∃ c : Bool, True ∧ PCalls P 80 [sV s] [] (bV c) := by
  obtain ⟨oi, ob, op, os, on, or_, om, hω⟩ := shields
  have hi : ∀ f, oi f = f () := hω.i
  have hb : ∀ f, ob f = f () := hω.b
  have hp : ∀ f, op f = f () := hω.p
  refine PCalls.runE hmix hω q_script_IsName ?_
  unfold c_script_IsName
  conv => arg 4; cbv
  obtain ⟨x, hx⟩ := counter 0
  refine meanE_loop hω [0, 7, 8] 0 s.size (fun j => True)
    (fun i => { t := slots 63 [(0, sV s), (7, iV (oi fun _ => Int.ofNat s.size)), (8, iV (x i))], B := [], L := [] }) ?_ (fun e he => by cases he) ?_ ?_ ?_
  · simp only [hx 0]; rfl
  · simp [FgtOk, undT, undEs, AV.und]
  · simp
  · intro i hiN hok
    have hxi : x i = i := by rw [hx]; omega
    conv => arg 4; cbv
    split
    · rename_i h3
      simp only [h3]
      simp only [hb, hi, decide_eq_true_eq, Int.ofNat_eq_natCast] at h3
      conv => arg 4; cbv
      split
      · rename_i h4
        simp only [h4]
        conv => arg 4; cbv
        refine round_out hω ?_ (fun h => by cases h) ?_
        · conv => arg 4; cbv
          refine finBool hω (by conv => lhs; cbv) trivial (fun e he => by cases he) trivial ?_
          simp
        · simp only [bIf_rec, pIf_rec, bNot_rec, hb, hi, hp, Int.ofNat_eq_natCast]; simp; omega
      · rename_i h4
        simp only [h4]
        conv => arg 4; cbv
        have hnx : (oi fun _ => IntKind.wrap .i64 (x i + 1)) = x (i + 1) := by
          rw [hi, hx, hx, wrap_i64 (by omega)]
          push_cast
          omega
        refine round_next ?_ (by omega) trivial (fun e he => by cases he) ?_ ?_
        · simp only [hnx]; rfl
        · simp [FgtOk, undT, undEs, AV.und]
        · simp only [bIf_rec, pIf_rec, bNot_rec, hb, hi, hp, Int.ofNat_eq_natCast]; simp; omega
    · rename_i h3
      simp only [h3]
      conv => arg 4; cbv
      refine round_out hω ?_ (fun h => by cases h) trivial
      conv => arg 4; cbv
      refine finBool hω (by conv => lhs; cbv) trivial (fun e he => by cases he) ?_ ?_
      · simp only [bIf_rec, pIf_rec, bNot_rec, hb, hi, hp, Int.ofNat_eq_natCast]; simp
      · simp
end Go.Den.Z
namespace Go.Den.Z
open Go.Proofs
theorem isName2_ok (s : ByteArray) (h : szr s) : ∃ c : Bool, True ∧ PCalls P 80 [sV s] [] (bV c) := isName_ok s (by unfold szr at h; omega)

theorem version_ok (s : ByteArray) (h : szr s) : ∃ c : Bool, True ∧ PCalls P 105 [sV s] [] (bV c) := by
  obtain ⟨oi, ob, op, os, on, or_, om, hω⟩ := shields
  have hi : ∀ f, oi f = f () := hω.i
  have hb : ∀ f, ob f = f () := hω.b
  have hp : ∀ f, op f = f () := hω.p
  have hs : ∀ f, os f = f () := hω.s
  have hr : ∀ f, or_ f = f () := hω.r
  refine PCalls.runE hmix hω q_image_version ?_
  unfold c_image_version
  repeat' first
    | (refine meanE_id ?_; conv => arg 4; cbv)
    | (refine finBool hω (by conv => lhs; cbv) ?_ (fun e he => by cases he) ?_ ?_)
    | (refine callE hω (isName2_ok _ (by assumption)) (by (try (conv => cbv)); simp [undL, AV.und, agg]) (fun v => by simp [AV.und, undL, iV, bV, fltV, agg]) ?_ fun v hv => ?_)
    | (refine callGE hω (isName2_ok _ (by assumption)) (by (try (conv => cbv)); simp [undL, AV.und, agg]) (fun v => by simp [AV.und, undL, iV, bV, fltV, agg]) ?_ fun v hv => ?_)
    | (refine callQE hω (isName2_ok _ (by assumption)) (by (try (conv => cbv)); simp [undL, AV.und, agg]) (fun v => by simp [AV.und, undL, iV, bV, fltV, agg]) ?_ fun v hv => ?_)
    | (split <;> (rename_i h; simp only [h]; (try simp only [bIf_rec, pIf_rec, bNot_rec, hb, hi, hp, Int.ofNat_eq_natCast] at h); (try simp at h)))
    | (split <;> skip)
  all_goals first | omega | (simp; done) | (simp only [hi]; (try rw [wrap_i64 (by omega)]); omega) | (simp only [bIf_rec, pIf_rec, bNot_rec, hb, hi, hp, Int.ofNat_eq_natCast]; simp; done) | (simp; omega) | (simp only [bIf_rec, pIf_rec, bNot_rec, hb, hi, hp, Int.ofNat_eq_natCast]; simp; omega) | trivial | skip

theorem compareExports_ok (a b : Exp) : ∃ c : Int, True ∧ PCalls P 106 [agg a.e, agg b.e] [] (iV c) := by
  obtain ⟨an, av, ad, aw, at_, aa, as_⟩ := a
  obtain ⟨bn, bv, bd, bw, bt, ba, bs⟩ := b
  obtain ⟨oi, ob, op, os, on, or_, om, hω⟩ := shields
  have hi : ∀ f, oi f = f () := hω.i
  have hb : ∀ f, ob f = f () := hω.b
  have hp : ∀ f, op f = f () := hω.p
  have hs : ∀ f, os f = f () := hω.s
  have hr : ∀ f, or_ f = f () := hω.r
  refine PCalls.runE hmix hω q_image_CompareExports ?_
  unfold c_image_CompareExports
  repeat' first
    | (refine meanE_id ?_; conv => arg 4; cbv)
    | (refine finInt hω (by conv => lhs; cbv) ?_ (fun e he => by cases he) ?_ ?_)
    | (refine callE hω (cmpS_ok _ _) (by (try (conv => cbv)); simp [undL, AV.und, agg]) (fun v => by simp [AV.und, undL, iV, bV, fltV, agg]) ?_ fun v hv => ?_)
    | (refine callGE hω (cmpS_ok _ _) (by (try (conv => cbv)); simp [undL, AV.und, agg]) (fun v => by simp [AV.und, undL, iV, bV, fltV, agg]) ?_ fun v hv => ?_)
    | (refine callQE hω (cmpS_ok _ _) (by (try (conv => cbv)); simp [undL, AV.und, agg]) (fun v => by simp [AV.und, undL, iV, bV, fltV, agg]) ?_ fun v hv => ?_)
    | (refine callE hω (or_ok [_, _] _ rfl (by simp)) (by (try (conv => cbv)); simp [undL, AV.und, agg]) (fun v => by simp [AV.und, undL, iV, bV, fltV, agg]) ?_ fun v hv => ?_)
    | (refine callGE hω (or_ok [_, _] _ rfl (by simp)) (by (try (conv => cbv)); simp [undL, AV.und, agg]) (fun v => by simp [AV.und, undL, iV, bV, fltV, agg]) ?_ fun v hv => ?_)
    | (refine callQE hω (or_ok [_, _] _ rfl (by simp)) (by (try (conv => cbv)); simp [undL, AV.und, agg]) (fun v => by simp [AV.und, undL, iV, bV, fltV, agg]) ?_ fun v hv => ?_)
    | (split <;> (rename_i h; simp only [h]; (try simp only [bIf_rec, pIf_rec, bNot_rec, hb, hi, hp, Int.ofNat_eq_natCast] at h); (try simp at h)))
    | (split <;> skip)
  all_goals first | omega | (simp; done) | (simp only [hi]; (try rw [wrap_i64 (by omega)]); omega) | (simp only [bIf_rec, pIf_rec, bNot_rec, hb, hi, hp, Int.ofNat_eq_natCast]; simp; done) | (simp; omega) | (simp only [bIf_rec, pIf_rec, bNot_rec, hb, hi, hp, Int.ofNat_eq_natCast]; simp; omega) | trivial | skip

theorem compareVariables_ok (a b : Var) : ∃ c : Int, True ∧ PCalls P 108 [agg a.e, agg b.e] [] (iV c) := by
  obtain ⟨an, aa, at_⟩ := a
  obtain ⟨bn, ba, bt⟩ := b
  obtain ⟨oi, ob, op, os, on, or_, om, hω⟩ := shields
  have hi : ∀ f, oi f = f () := hω.i
  have hb : ∀ f, ob f = f () := hω.b
  have hp : ∀ f, op f = f () := hω.p
  have hs : ∀ f, os f = f () := hω.s
  have hr : ∀ f, or_ f = f () := hω.r
  refine PCalls.runE hmix hω q_image_CompareVariables ?_
  unfold c_image_CompareVariables
  repeat' first
    | (refine meanE_id ?_; conv => arg 4; cbv)
    | (refine finInt hω (by conv => lhs; cbv) ?_ (fun e he => by cases he) ?_ ?_)
    | (refine callE hω (cmpS_ok _ _) (by (try (conv => cbv)); simp [undL, AV.und, agg]) (fun v => by simp [AV.und, undL, iV, bV, fltV, agg]) ?_ fun v hv => ?_)
    | (refine callGE hω (cmpS_ok _ _) (by (try (conv => cbv)); simp [undL, AV.und, agg]) (fun v => by simp [AV.und, undL, iV, bV, fltV, agg]) ?_ fun v hv => ?_)
    | (refine callQE hω (cmpS_ok _ _) (by (try (conv => cbv)); simp [undL, AV.und, agg]) (fun v => by simp [AV.und, undL, iV, bV, fltV, agg]) ?_ fun v hv => ?_)
    | (refine callE hω (cmpI_ok _ _) (by (try (conv => cbv)); simp [undL, AV.und, agg]) (fun v => by simp [AV.und, undL, iV, bV, fltV, agg]) ?_ fun v hv => ?_)
    | (refine callGE hω (cmpI_ok _ _) (by (try (conv => cbv)); simp [undL, AV.und, agg]) (fun v => by simp [AV.und, undL, iV, bV, fltV, agg]) ?_ fun v hv => ?_)
    | (refine callQE hω (cmpI_ok _ _) (by (try (conv => cbv)); simp [undL, AV.und, agg]) (fun v => by simp [AV.und, undL, iV, bV, fltV, agg]) ?_ fun v hv => ?_)
    | (refine callE hω (or_ok [_, _, _] _ rfl (by simp)) (by (try (conv => cbv)); simp [undL, AV.und, agg]) (fun v => by simp [AV.und, undL, iV, bV, fltV, agg]) ?_ fun v hv => ?_)
    | (refine callGE hω (or_ok [_, _, _] _ rfl (by simp)) (by (try (conv => cbv)); simp [undL, AV.und, agg]) (fun v => by simp [AV.und, undL, iV, bV, fltV, agg]) ?_ fun v hv => ?_)
    | (refine callQE hω (or_ok [_, _, _] _ rfl (by simp)) (by (try (conv => cbv)); simp [undL, AV.und, agg]) (fun v => by simp [AV.und, undL, iV, bV, fltV, agg]) ?_ fun v hv => ?_)
    | (split <;> (rename_i h; simp only [h]; (try simp only [bIf_rec, pIf_rec, bNot_rec, hb, hi, hp, Int.ofNat_eq_natCast] at h); (try simp at h)))
    | (split <;> skip)
  all_goals first | omega | (simp; done) | (simp only [hi]; (try rw [wrap_i64 (by omega)]); omega) | (simp only [bIf_rec, pIf_rec, bNot_rec, hb, hi, hp, Int.ofNat_eq_natCast]; simp; done) | (simp; omega) | (simp only [bIf_rec, pIf_rec, bNot_rec, hb, hi, hp, Int.ofNat_eq_natCast]; simp; omega) | trivial | skip

end Go.Den.Z
namespace Go.Den.Z
open Go.Proofs
theorem indexFld_ok {τ : Type} (l : List τ) (e : τ → List CV) (rows : List (List CV)) (hrows : rows = l.map e) (hsz : ∀ x, (e x).length = 3) (he : ∀ x, ∃ z0 z1 z2, e x = [z0, z1, z2]) (f : FuncId) (caps : List AV) (H : List Ent) (hH : ∀ e ∈ H, Ent.und H.length e) (hcaps : undL H.length caps) (hlen : l.length < 9223372036854775807) (g : Nat → Bool)
    (hg : ∀ i x, l[i]? = some x → PCalls P f (agg (e x) :: caps) H (bV (g i))) : ∃ c : Int, c = firstIdx g l.length ∧ PCalls P 49 [.c (.sl rows), .fn f caps] H (iV c) := by
  obtain ⟨oi, ob, op, os, on, or_, om, hω⟩ := shields
  have hi : ∀ f, oi f = f () := hω.i
  have hb : ∀ f, ob f = f () := hω.b
  have hp : ∀ f, op f = f () := hω.p
  have hll : rows.length = l.length := by rw [hrows]; simp
  refine PCalls.runE hmix hω q_slices_IndexFunc_api_Field_api_Field ?_
  unfold c_slices_IndexFunc_api_Field_api_Field
  conv => arg 4; cbv
  obtain ⟨x, hx⟩ := counter 0
  refine meanE_loop hω [0, 1, 7, 8] 0 l.length (fun j => g j = false)
    (fun i => { t := slots 19 [(0, .c (.sl rows)), (1, .fn f caps), (7, iV (oi fun _ => Int.ofNat rows.length)), (8, iV (x i))], B := H, L := [] }) ?_ hH ?_ ?_ ?_
  · simp only [hx 0]; rfl
  · simp [FgtOk, undT, undEs, AV.und, hcaps]
  · trivial
  · intro i hiN hok
    have hxi : x i = i := by rw [hx]; omega
    conv => arg 4; cbv
    split
    · rename_i h3
      simp only [h3]
      simp only [hb, hi, decide_eq_true_eq, Int.ofNat_eq_natCast] at h3
      conv => arg 4; cbv
      refine elemM hω hrows (by omega) (by omega) hsz trivial fun q hq => ?_
      have hgi := hg (x i).toNat q hq
      obtain ⟨z0, z1, z2, hq4⟩ := he q
      rw [hq4] at hgi ⊢
      have hti : (x i).toNat = i := by omega
      rw [hti] at hgi
      conv => arg 4; cbv
      refine meanE_call hω (r := bV (g i)) ?_ ?_ ?_
      · simpa [agg] using hgi
      · trivial
      generalize hgg : g i = gi at *
      conv => arg 4; cbv
      cases gi
      · conv => arg 4; cbv
        have hnx : (oi fun _ => IntKind.wrap .i64 (x i + 1)) = x (i + 1) := by
          rw [hi, hx, hx, wrap_i64 (by omega)]
          push_cast
          omega
        refine round_next ?_ (by omega) hgg hH ?_ ?_
        · simp only [hnx]; rfl
        · simp [FgtOk, undT, undEs, AV.und, hcaps]
        · trivial
      · conv => arg 4; cbv
        refine round_out hω ?_ (fun h => by cases h) trivial
        conv => arg 4; cbv
        refine finInt hω (by conv => lhs; cbv) ?_ hH ?_ ?_
        · rw [firstIdx_some (by omega) hok hgg, hxi]
        · trivial
        · simp
    · rename_i h3
      simp only [h3]
      simp only [hb, hi, decide_eq_false_iff_not, Int.ofNat_eq_natCast] at h3
      conv => arg 4; cbv
      refine round_out hω ?_ (fun h => by cases h) trivial
      conv => arg 4; cbv
      refine finInt hω (by conv => lhs; cbv) ?_ hH ?_ ?_
      · rw [firstIdx_none fun j hj => hok j (by omega)]
      · trivial
      · simp

theorem containsFld_ok {τ : Type} (l : List τ) (e : τ → List CV) (rows : List (List CV)) (hrows : rows = l.map e) (hsz : ∀ x, (e x).length = 3) (he : ∀ x, ∃ z0 z1 z2, e x = [z0, z1, z2]) (f : FuncId) (caps : List AV) (H : List Ent) (hH : ∀ e ∈ H, Ent.und H.length e) (hcaps : undL H.length caps) (hlen : l.length < 9223372036854775807) (g : Nat → Bool)
    (hg : ∀ i x, l[i]? = some x → PCalls P f (agg (e x) :: caps) H (bV (g i))) : ∃ c : Bool, c = decide (0 ≤ firstIdx g l.length) ∧ PCalls P 119 [.c (.sl rows), .fn f caps] H (bV c) := by
  obtain ⟨oi, ob, op, os, on, or_, om, hω⟩ := shields
  have hi : ∀ f, oi f = f () := hω.i
  have hb : ∀ f, ob f = f () := hω.b
  obtain ⟨c, hc, hcall⟩ := indexFld_ok l e rows hrows hsz he f caps H hH hcaps hlen g hg
  refine PCalls.runE hmix hω q_slices_ContainsFunc_api_Field_api_Field ?_
  unfold c_slices_ContainsFunc_api_Field_api_Field
  conv => arg 4; cbv
  refine meanE_call hω (r := iV c) ?_ trivial ?_
  · simpa using hcall
  conv => arg 4; cbv
  refine finBool hω (by conv => lhs; cbv) ?_ hH trivial ?_
  · rw [hb, hc]
  · simp

theorem indexImg_ok {τ : Type} (l : List τ) (e : τ → List CV) (rows : List (List CV)) (hrows : rows = l.map e) (hsz : ∀ x, (e x).length = 19) (he : ∀ x, ∃ z0 z1 z2 z3 z4 z5 z6 z7 z8 z9 z10 z11 z12 z13 z14 z15 z16 z17 z18, e x = [z0, z1, z2, z3, z4, z5, z6, z7, z8, z9, z10, z11, z12, z13, z14, z15, z16, z17, z18]) (f : FuncId) (caps : List AV) (H : List Ent) (hH : ∀ e ∈ H, Ent.und H.length e) (hcaps : undL H.length caps) (hlen : l.length < 9223372036854775807) (g : Nat → Bool)
    (hg : ∀ i x, l[i]? = some x → PCalls P f (agg (e x) :: caps) H (bV (g i))) : ∃ c : Int, c = firstIdx g l.length ∧ PCalls P 97 [.c (.sl rows), .fn f caps] H (iV c) := by
  obtain ⟨oi, ob, op, os, on, or_, om, hω⟩ := shields
  have hi : ∀ f, oi f = f () := hω.i
  have hb : ∀ f, ob f = f () := hω.b
  have hp : ∀ f, op f = f () := hω.p
  have hll : rows.length = l.length := by rw [hrows]; simp
  refine PCalls.runE hmix hω q_slices_IndexFunc_api_Image_api_Image ?_
  unfold c_slices_IndexFunc_api_Image_api_Image
  conv => arg 4; cbv
  obtain ⟨x, hx⟩ := counter 0
  refine meanE_loop hω [0, 1, 7, 8] 0 l.length (fun j => g j = false)
    (fun i => { t := slots 19 [(0, .c (.sl rows)), (1, .fn f caps), (7, iV (oi fun _ => Int.ofNat rows.length)), (8, iV (x i))], B := H, L := [] }) ?_ hH ?_ ?_ ?_
  · simp only [hx 0]; rfl
  · simp [FgtOk, undT, undEs, AV.und, hcaps]
  · trivial
  · intro i hiN hok
    have hxi : x i = i := by rw [hx]; omega
    conv => arg 4; cbv
    split
    · rename_i h3
      simp only [h3]
      simp only [hb, hi, decide_eq_true_eq, Int.ofNat_eq_natCast] at h3
      conv => arg 4; cbv
      refine elemM hω hrows (by omega) (by omega) hsz trivial fun q hq => ?_
      have hgi := hg (x i).toNat q hq
      obtain ⟨z0, z1, z2, z3, z4, z5, z6, z7, z8, z9, z10, z11, z12, z13, z14, z15, z16, z17, z18, hq4⟩ := he q
      rw [hq4] at hgi ⊢
      have hti : (x i).toNat = i := by omega
      rw [hti] at hgi
      conv => arg 4; cbv
      refine meanE_call hω (r := bV (g i)) ?_ ?_ ?_
      · simpa [agg] using hgi
      · trivial
      generalize hgg : g i = gi at *
      conv => arg 4; cbv
      cases gi
      · conv => arg 4; cbv
        have hnx : (oi fun _ => IntKind.wrap .i64 (x i + 1)) = x (i + 1) := by
          rw [hi, hx, hx, wrap_i64 (by omega)]
          push_cast
          omega
        refine round_next ?_ (by omega) hgg hH ?_ ?_
        · simp only [hnx]; rfl
        · simp [FgtOk, undT, undEs, AV.und, hcaps]
        · trivial
      · conv => arg 4; cbv
        refine round_out hω ?_ (fun h => by cases h) trivial
        conv => arg 4; cbv
        refine finInt hω (by conv => lhs; cbv) ?_ hH ?_ ?_
        · rw [firstIdx_some (by omega) hok hgg, hxi]
        · trivial
        · simp
    · rename_i h3
      simp only [h3]
      simp only [hb, hi, decide_eq_false_iff_not, Int.ofNat_eq_natCast] at h3
      conv => arg 4; cbv
      refine round_out hω ?_ (fun h => by cases h) trivial
      conv => arg 4; cbv
      refine finInt hω (by conv => lhs; cbv) ?_ hH ?_ ?_
      · rw [firstIdx_none fun j hj => hok j (by omega)]
      · trivial
      · simp

theorem indexInt_ok {τ : Type} (l : List τ) (e : τ → List CV) (rows : List (List CV)) (hrows : rows = l.map e) (hsz : ∀ x, (e x).length = 1) (he : ∀ x, ∃ z0, e x = [z0]) (f : FuncId) (caps : List AV) (H : List Ent) (hH : ∀ e ∈ H, Ent.und H.length e) (hcaps : undL H.length caps) (hlen : l.length < 9223372036854775807) (g : Nat → Bool)
    (hg : ∀ i x, l[i]? = some x → PCalls P f (((e x).map AV.c) ++ caps) H (bV (g i))) : ∃ c : Int, c = firstIdx g l.length ∧ PCalls P 40 [.c (.sl rows), .fn f caps] H (iV c) := by
  obtain ⟨oi, ob, op, os, on, or_, om, hω⟩ := shields
  have hi : ∀ f, oi f = f () := hω.i
  have hb : ∀ f, ob f = f () := hω.b
  have hp : ∀ f, op f = f () := hω.p
  have hll : rows.length = l.length := by rw [hrows]; simp
  refine PCalls.runE hmix hω q_slices_IndexFunc_int_int ?_
  unfold c_slices_IndexFunc_int_int
  conv => arg 4; cbv
  obtain ⟨x, hx⟩ := counter 0
  refine meanE_loop hω [0, 1, 7, 8] 0 l.length (fun j => g j = false)
    (fun i => { t := slots 19 [(0, .c (.sl rows)), (1, .fn f caps), (7, iV (oi fun _ => Int.ofNat rows.length)), (8, iV (x i))], B := H, L := [] }) ?_ hH ?_ ?_ ?_
  · simp only [hx 0]; rfl
  · simp [FgtOk, undT, undEs, AV.und, hcaps]
  · trivial
  · intro i hiN hok
    have hxi : x i = i := by rw [hx]; omega
    conv => arg 4; cbv
    split
    · rename_i h3
      simp only [h3]
      simp only [hb, hi, decide_eq_true_eq, Int.ofNat_eq_natCast] at h3
      conv => arg 4; cbv
      refine elemM hω hrows (by omega) (by omega) hsz trivial fun q hq => ?_
      have hgi := hg (x i).toNat q hq
      obtain ⟨z0, hq4⟩ := he q
      rw [hq4] at hgi ⊢
      have hti : (x i).toNat = i := by omega
      rw [hti] at hgi
      conv => arg 4; cbv
      refine meanE_call hω (r := bV (g i)) ?_ ?_ ?_
      · simpa using hgi
      · trivial
      generalize hgg : g i = gi at *
      conv => arg 4; cbv
      cases gi
      · conv => arg 4; cbv
        have hnx : (oi fun _ => IntKind.wrap .i64 (x i + 1)) = x (i + 1) := by
          rw [hi, hx, hx, wrap_i64 (by omega)]
          push_cast
          omega
        refine round_next ?_ (by omega) hgg hH ?_ ?_
        · simp only [hnx]; rfl
        · simp [FgtOk, undT, undEs, AV.und, hcaps]
        · trivial
      · conv => arg 4; cbv
        refine round_out hω ?_ (fun h => by cases h) trivial
        conv => arg 4; cbv
        refine finInt hω (by conv => lhs; cbv) ?_ hH ?_ ?_
        · rw [firstIdx_some (by omega) hok hgg, hxi]
        · trivial
        · simp
    · rename_i h3
      simp only [h3]
      simp only [hb, hi, decide_eq_false_iff_not, Int.ofNat_eq_natCast] at h3
      conv => arg 4; cbv
      refine round_out hω ?_ (fun h => by cases h) trivial
      conv => arg 4; cbv
      refine finInt hω (by conv => lhs; cbv) ?_ hH ?_ ?_
      · rw [firstIdx_none fun j hj => hok j (by omega)]
      · trivial
      · simp

theorem containsInt_ok {τ : Type} (l : List τ) (e : τ → List CV) (rows : List (List CV)) (hrows : rows = l.map e) (hsz : ∀ x, (e x).length = 1) (he : ∀ x, ∃ z0, e x = [z0]) (f : FuncId) (caps : List AV) (H : List Ent) (hH : ∀ e ∈ H, Ent.und H.length e) (hcaps : undL H.length caps) (hlen : l.length < 9223372036854775807) (g : Nat → Bool)
    (hg : ∀ i x, l[i]? = some x → PCalls P f (((e x).map AV.c) ++ caps) H (bV (g i))) : ∃ c : Bool, c = decide (0 ≤ firstIdx g l.length) ∧ PCalls P 23 [.c (.sl rows), .fn f caps] H (bV c) := by
  obtain ⟨oi, ob, op, os, on, or_, om, hω⟩ := shields
  have hi : ∀ f, oi f = f () := hω.i
  have hb : ∀ f, ob f = f () := hω.b
  obtain ⟨c, hc, hcall⟩ := indexInt_ok l e rows hrows hsz he f caps H hH hcaps hlen g hg
  refine PCalls.runE hmix hω q_slices_ContainsFunc_int_int ?_
  unfold c_slices_ContainsFunc_int_int
  conv => arg 4; cbv
  refine meanE_call hω (r := iV c) ?_ trivial ?_
  · simpa using hcall
  conv => arg 4; cbv
  refine finBool hω (by conv => lhs; cbv) ?_ hH trivial ?_
  · rw [hb, hc]
  · simp

end Go.Den.Z
namespace Go.Den.Z
open Go.Proofs
theorem isNameByte_ok (n : Int) : ∃ c : Bool, True ∧ PCalls P 117 [yV n] [] (bV c) := by
  obtain ⟨oi, ob, op, os, on, or_, om, hω⟩ := shields
  have hi : ∀ f, oi f = f () := hω.i
  have hb : ∀ f, ob f = f () := hω.b
  have hp : ∀ f, op f = f () := hω.p
  have hs : ∀ f, os f = f () := hω.s
  have hr : ∀ f, or_ f = f () := hω.r
  refine PCalls.runE hmix hω q_token_isNameByte ?_
  unfold c_token_isNameByte
  repeat' first
    | (refine meanE_id ?_; conv => arg 4; cbv)
    | (refine finBool hω (by conv => lhs; cbv) ?_ (fun e he => by cases he) ?_ ?_)
    | (refine callE hω (isDigit_ok _) (by (try (conv => cbv)); simp [undL, AV.und, agg]) (fun v => by simp [AV.und, undL, iV, bV, fltV, agg]) ?_ fun v hv => ?_)
    | (refine callGE hω (isDigit_ok _) (by (try (conv => cbv)); simp [undL, AV.und, agg]) (fun v => by simp [AV.und, undL, iV, bV, fltV, agg]) ?_ fun v hv => ?_)
    | (refine callQE hω (isDigit_ok _) (by (try (conv => cbv)); simp [undL, AV.und, agg]) (fun v => by simp [AV.und, undL, iV, bV, fltV, agg]) ?_ fun v hv => ?_)
    | (split <;> (rename_i h; simp only [h]; (try simp only [bIf_rec, pIf_rec, bNot_rec, hb, hi, hp, Int.ofNat_eq_natCast] at h); (try simp at h)))
    | (split <;> skip)
  all_goals first | omega | (simp; done) | (simp only [hi]; (try rw [wrap_i64 (by omega)]); omega) | (simp only [bIf_rec, pIf_rec, bNot_rec, hb, hi, hp, Int.ofNat_eq_natCast]; simp; done) | (simp; omega) | (simp only [bIf_rec, pIf_rec, bNot_rec, hb, hi, hp, Int.ofNat_eq_natCast]; simp; omega) | trivial | (simp only [bIf_rec, pIf_rec, bNot_rec, hb, hi, hp, Int.ofNat_eq_natCast]; simp_all; done) | (simp only [bIf_rec, pIf_rec, bNot_rec, hb, hi, hp, Int.ofNat_eq_natCast]; simp_all; omega) | (simp only [bIf_rec, pIf_rec, bNot_rec, hb, hi, hp, Int.ofNat_eq_natCast, oConds, St.ev]; simp [strip]; done) | (simp only [bIf_rec, pIf_rec, bNot_rec, hb, hi, hp, Int.ofNat_eq_natCast, oConds, St.ev]; simp [strip]; simp_all; done) | (simp only [bIf_rec, pIf_rec, bNot_rec, hb, hi, hp, Int.ofNat_eq_natCast]; grind) | (exfalso; simp only [bIf_rec, bNot_rec] at *; simp_all; done) | (exfalso; rename_i heq; simp only [bIf_rec, pIf_rec, bNot_rec, hb, hi, hp, Int.ofNat_eq_natCast] at heq; simp at heq; omega) | (exfalso; rename_i heq; simp only [bIf_rec, pIf_rec, bNot_rec, hb, hi, hp, Int.ofNat_eq_natCast] at heq; simp at heq; simp_all; omega) | (exfalso; rename_i heq; simp only [bIf_rec, pIf_rec, bNot_rec, hb, hi, hp, Int.ofNat_eq_natCast] at heq; grind) | skip

theorem tokName_ok (s : ByteArray) (hs : szr s) : ∃ c : Bool, True ∧ PCalls P 114 [sV s] [] (bV c) := by
  unfold szr at hs
  obtain ⟨oi, ob, op, os, on, or_, om, hω⟩ := shields
  have hi : ∀ f, oi f = f () := hω.i
  have hb : ∀ f, ob f = f () := hω.b
  have hp : ∀ f, op f = f () := hω.p
  have hs : ∀ f, os f = f () := hω.s
  have hr : ∀ f, or_ f = f () := hω.r
  obtain ⟨x, hx⟩ := counter 0
  refine PCalls.runE hmix hω q_token_IsName ?_
  unfold c_token_IsName
  repeat' first
    | (refine meanE_id ?_; conv => arg 4; cbv)
    | (refine finBool hω (by conv => lhs; cbv) ?_ (fun e he => by cases he) ?_ ?_)
    | (refine callE hω (isDigit_ok _) (by (try (conv => cbv)); simp [undL, AV.und, agg]) (fun v => by simp [AV.und, undL, iV, bV, fltV, agg]) ?_ fun v hv => ?_)
    | (refine callGE hω (isDigit_ok _) (by (try (conv => cbv)); simp [undL, AV.und, agg]) (fun v => by simp [AV.und, undL, iV, bV, fltV, agg]) ?_ fun v hv => ?_)
    | (refine callQE hω (isDigit_ok _) (by (try (conv => cbv)); simp [undL, AV.und, agg]) (fun v => by simp [AV.und, undL, iV, bV, fltV, agg]) ?_ fun v hv => ?_)
    | (refine callE hω (isNameByte_ok _) (by (try (conv => cbv)); simp [undL, AV.und, agg]) (fun v => by simp [AV.und, undL, iV, bV, fltV, agg]) ?_ fun v hv => ?_)
    | (refine callGE hω (isNameByte_ok _) (by (try (conv => cbv)); simp [undL, AV.und, agg]) (fun v => by simp [AV.und, undL, iV, bV, fltV, agg]) ?_ fun v hv => ?_)
    | (refine callQE hω (isNameByte_ok _) (by (try (conv => cbv)); simp [undL, AV.und, agg]) (fun v => by simp [AV.und, undL, iV, bV, fltV, agg]) ?_ fun v hv => ?_)
    | (refine meanE_loopF hω [0, 5, 6] (s.size) (fun _ => True) (fun i => [(6, iV (x i))]) ?_ (fun e he => by cases he) ?_ ?_ fun i hiN hok => ?_; rotate_left 3; have hxi : x i = i := by rw [hx]; omega)
    | (refine forF_next hok ?_ ?_ ?_ (fun e he => by cases he) ?_ ?_)
    | (refine roundG_out hω ?_ (fun h => by cases h) ?_)
    | (split <;> (rename_i h; simp only [h]; (try simp only [bIf_rec, pIf_rec, bNot_rec, hb, hi, hp, Int.ofNat_eq_natCast] at h); (try simp at h)))
    | (split <;> skip)
  all_goals first | omega | (simp; done) | (simp only [hi]; (try rw [wrap_i64 (by omega)]); omega) | (simp only [bIf_rec, pIf_rec, bNot_rec, hb, hi, hp, Int.ofNat_eq_natCast]; simp; done) | (simp; omega) | (simp only [bIf_rec, pIf_rec, bNot_rec, hb, hi, hp, Int.ofNat_eq_natCast]; simp; omega) | (simp [FgtOk, undT, undEs, undEs.undRows, undL, AV.und]; done) | ((conv => lhs; cbv); (conv => rhs; cbv); simp only [hx 0]; rfl) | ((conv => lhs; cbv); (conv => rhs; cbv); simp only [hx 0]) | ((conv => lhs; cbv); (conv => rhs; cbv); simp only [show (oi fun _ => IntKind.wrap .i64 (x i + 1)) = x (i + 1) from by rw [hi, hx, hx, wrap_i64 (by omega)]; push_cast; omega]) | trivial | (simp only [bIf_rec, pIf_rec, bNot_rec, hb, hi, hp, Int.ofNat_eq_natCast]; simp_all; done) | (simp only [bIf_rec, pIf_rec, bNot_rec, hb, hi, hp, Int.ofNat_eq_natCast]; simp_all; omega) | (simp only [bIf_rec, pIf_rec, bNot_rec, hb, hi, hp, Int.ofNat_eq_natCast, oConds, St.ev]; simp [strip]; done) | (simp only [bIf_rec, pIf_rec, bNot_rec, hb, hi, hp, Int.ofNat_eq_natCast, oConds, St.ev]; simp [strip]; simp_all; done) | (simp only [bIf_rec, pIf_rec, bNot_rec, hb, hi, hp, Int.ofNat_eq_natCast]; grind) | (exfalso; simp only [bIf_rec, bNot_rec] at *; simp_all; done) | (exfalso; rename_i heq; simp only [bIf_rec, pIf_rec, bNot_rec, hb, hi, hp, Int.ofNat_eq_natCast] at heq; simp at heq; omega) | (exfalso; rename_i heq; simp only [bIf_rec, pIf_rec, bNot_rec, hb, hi, hp, Int.ofNat_eq_natCast] at heq; simp at heq; simp_all; omega) | (exfalso; rename_i heq; simp only [bIf_rec, pIf_rec, bNot_rec, hb, hi, hp, Int.ofNat_eq_natCast] at heq; grind) | skip

theorem firstIdx_range (g : Nat → Bool) (n : Nat) : -1 ≤ firstIdx g n ∧ firstIdx g n < n ∨ firstIdx g n = -1 := by
  unfold firstIdx
  cases h : (List.range n).find? g with
  | none => exact .inr rfl
  | some i =>
    have := List.mem_range.1 (List.mem_of_find?_eq_some h)
    exact .inl ⟨by simp only; omega, by simp only; omega⟩
theorem named1_ok (q : Img) (nm : ByteArray) : ∃ c : Bool, c = decide (q.name = nm) ∧ PCalls P 98 [agg q.e, .op 0 0 0] [.mem 1 [[sV nm]]] (bV c) := by
  have hB : ∀ e ∈ [Ent.mem 1 [[sV nm]]], Ent.und 1 e := by
    intro e he
    simp at he
    subst he
    simp [Ent.und, undL, AV.und, sV]
  rw [← Img.r_e]
  generalize hy : q.r = y
  have hn : q.name = y.name := by rw [← hy]; rfl
  rw [hn]
  clear hn hy
  obtain ⟨name, shared, segs, entry, exps, imps, fixs, thr, thrSize, inits, finis, needs, id, lines, unw, files, types, vars, places⟩ := y
  obtain ⟨oi, ob, op, os, on, or_, om, hω⟩ := shields
  have hi : ∀ f, oi f = f () := hω.i
  have hb : ∀ f, ob f = f () := hω.b
  have hp : ∀ f, op f = f () := hω.p
  have hs : ∀ f, os f = f () := hω.s
  have hr : ∀ f, or_ f = f () := hω.r
  refine PCalls.runE hmix hω q_scope_named_1 ?_
  unfold c_scope_named_1
  conv => arg 4; cbv
  refine finBool hω (by (conv => lhs; cbv); all_goals rfl) ?_ hB ?_ ?_
  · rw [hb]
  · simp
  · simp
theorem named_ok (l : List Img) (rows : List (List CV)) (hrows : rows = l.map Img.e) (hl : l.length ≤ 1048576) (nm : ByteArray) : ∃ c : Int, (c < l.length) ∧ PCalls P 55 [.c (.sl rows), sV nm] [] (iV c) := by
  have hB : ∀ e ∈ [Ent.mem 1 [[sV nm]]], Ent.und 1 e := by
    intro e he
    simp at he
    subst he
    simp [Ent.und, undL, AV.und, sV]
  obtain ⟨c, hc, hcall⟩ := indexImg_ok l Img.e rows hrows (fun _ => rfl) (fun x => ⟨_, _, _, _, _, _, _, _, _, _, _, _, _, _, _, _, _, _, _, rfl⟩) 98 [.op 0 0 0] [.mem 1 [[sV nm]]] hB (by simp [undL, AV.und]) (by omega) (fun i => (l[i]?).elim false fun q => decide (q.name = nm)) (fun i q hq => by
    obtain ⟨c, hc, h⟩ := named1_ok q nm
    simp only [hq, Option.elim]
    rw [← hc]
    exact h)
  obtain ⟨oi, ob, op, os, on, or_, om, hω⟩ := shields
  have hi : ∀ f, oi f = f () := hω.i
  have hb : ∀ f, ob f = f () := hω.b
  have hp : ∀ f, op f = f () := hω.p
  have hs : ∀ f, os f = f () := hω.s
  have hr : ∀ f, or_ f = f () := hω.r
  refine PCalls.runE hmix hω q_scope_named ?_
  unfold c_scope_named
  conv => arg 4; cbv
  refine meanE_call hω (r := iV c) hcall trivial ?_
  conv => arg 4; cbv
  refine finInt hω (by (conv => lhs; cbv); all_goals rfl) ?_ (fun e he => by cases he) trivial ?_
  · have := firstIdx_range (fun i => (l[i]?).elim false fun q => decide (q.name = nm)) l.length
    rw [hc]; omega
  · simp
theorem outOfRange_ok (n : Int) : ∃ c : Bool, True ∧ PCalls P 24 [iV n] [] (bV c) := by
  obtain ⟨oi, ob, op, os, on, or_, om, hω⟩ := shields
  have hi : ∀ f, oi f = f () := hω.i
  have hb : ∀ f, ob f = f () := hω.b
  have hp : ∀ f, op f = f () := hω.p
  have hs : ∀ f, os f = f () := hω.s
  have hr : ∀ f, or_ f = f () := hω.r
  refine PCalls.runE hmix hω q_load_Validate_1 ?_
  unfold c_load_Validate_1
  repeat' first
    | (refine meanE_id ?_; conv => arg 4; cbv)
    | (refine finBool hω (by conv => lhs; cbv) ?_ (fun e he => by cases he) ?_ ?_)
    | (split <;> (rename_i h; simp only [h]; (try simp only [bIf_rec, pIf_rec, bNot_rec, hb, hi, hp, Int.ofNat_eq_natCast] at h); (try simp at h)))
    | (split <;> skip)
  all_goals first | omega | (simp; done) | (simp only [hi]; (try rw [wrap_i64 (by omega)]); omega) | (simp only [bIf_rec, pIf_rec, bNot_rec, hb, hi, hp, Int.ofNat_eq_natCast]; simp; done) | (simp; omega) | (simp only [bIf_rec, pIf_rec, bNot_rec, hb, hi, hp, Int.ofNat_eq_natCast]; simp; omega) | trivial | (simp only [bIf_rec, pIf_rec, bNot_rec, hb, hi, hp, Int.ofNat_eq_natCast]; simp_all; done) | (simp only [bIf_rec, pIf_rec, bNot_rec, hb, hi, hp, Int.ofNat_eq_natCast]; simp_all; omega) | (simp only [bIf_rec, pIf_rec, bNot_rec, hb, hi, hp, Int.ofNat_eq_natCast, oConds, St.ev]; simp [strip]; done) | (simp only [bIf_rec, pIf_rec, bNot_rec, hb, hi, hp, Int.ofNat_eq_natCast, oConds, St.ev]; simp [strip]; simp_all; done) | (simp only [bIf_rec, pIf_rec, bNot_rec, hb, hi, hp, Int.ofNat_eq_natCast]; grind) | (exfalso; simp only [bIf_rec, bNot_rec] at *; simp_all; done) | (exfalso; rename_i heq; simp only [bIf_rec, pIf_rec, bNot_rec, hb, hi, hp, Int.ofNat_eq_natCast] at heq; simp at heq; omega) | (exfalso; rename_i heq; simp only [bIf_rec, pIf_rec, bNot_rec, hb, hi, hp, Int.ofNat_eq_natCast] at heq; simp at heq; simp_all; omega) | (exfalso; rename_i heq; simp only [bIf_rec, pIf_rec, bNot_rec, hb, hi, hp, Int.ofNat_eq_natCast] at heq; grind) | skip

end Go.Den.Z
namespace Go.Den.Z
open Go.Proofs
theorem imagesOf_ok (l : List Ldd) (rows : List (List CV)) (hrows : rows = l.map Ldd.e) (hl : l.length ≤ 1048576) : PCalls P 38 [.c (.sl rows)] [] (.c (.sl (l.map fun d => d.img.e))) := by
  have hll : rows.length = l.length := by rw [hrows]; simp
  obtain ⟨g, hg⟩ : ∃ g : Nat → List (List CV), ∀ i, g i = (l.take i).map fun d => d.img.e := ⟨_, fun _ => rfl⟩
  have hgl : ∀ i, i ≤ l.length → (g i).length = i := fun i hi => by rw [hg]; simp; omega
  have hgs : ∀ (i : Nat) q, l[i]? = some q → g (i + 1) = g i ++ [q.img.e] := fun i q hq => by rw [hg, hg, List.take_add_one, hq]; simp
  have hg0 : g 0 = [] := by rw [hg]; rfl
  have hgr : ∀ (q : Ldd), q.img.e.length = 19 := fun q => rfl
  suffices h : ∃ v : List (List CV), v = (l.map fun d => d.img.e) ∧ PCalls P 38 [.c (.sl rows)] [] (.c (.sl v)) by
    obtain ⟨v, rfl, h⟩ := h
    exact h
  have hgN : g l.length = (l.map fun d => d.img.e) := by rw [hg, List.take_length]
  rw [← hgN]
  clear hg hgN
  obtain ⟨x, hx⟩ := counter 0
  obtain ⟨oi, ob, op, os, on, or_, om, hω⟩ := shields
  have hi : ∀ f, oi f = f () := hω.i
  have hb : ∀ f, ob f = f () := hω.b
  have hp : ∀ f, op f = f () := hω.p
  have hs : ∀ f, os f = f () := hω.s
  have hr : ∀ f, or_ f = f () := hω.r
  have hn : ∀ f, on f = f () := hω.n
  refine PCalls.runE hmix hω q_copies_Images ?_
  unfold c_copies_Images
  conv => arg 4; cbv
  refine meanE_loopG hω [3, 6, 7, 8] 2 (fun i : Nat => match i with
    | 0 => { t := slots 19 [(3, .c (.sc (.slice none 0 0))), (6, .c (.sl rows)), (7, iV (oi fun _ => Int.ofNat rows.length)), (8, iV (x 0))], B := [], L := [] }
    | k + 1 => { t := slots 19 [(3, .gs 1 (k + 1)), (6, .c (.sl rows)), (7, iV (oi fun _ => Int.ofNat rows.length)), (8, iV (x (k + 1)))], B := [], L := [.mem 22 [List.replicate 22 .any], .grow 19 66 (g (k + 1))] }) (fun i => i ≤ l.length) (fun i => l.length - i) 0 ?_ (Nat.zero_le _) (fun e he => by cases he) ?_ ?_ ?_
  · simp only [hx 0]; rfl
  · simp [FgtOk, undT, undEs, undEs.undRows, undL, AV.und]
  · trivial
  intro i hiN
  have hxi : x i = i := by rw [hx]; omega
  cases i with
  | zero =>
    simp only
    conv => arg 4; cbv
    split
    · rename_i h
      simp only [h]
      simp only [hb, hi] at h
      simp at h
      conv => arg 4; cbv
      refine elemM hω hrows ?_ ?_ (fun _ => rfl) ?_ fun q hq => ?_
      · omega
      · omega
      · simp
      · have hq0 := hgs 0 q (by rw [← hq, hxi]; rfl)
        obtain ⟨im, lb, lt, lu⟩ := q
        simp only [Ldd.e] at hq0 ⊢
        rw [← Img.r_e] at hq0 ⊢
        generalize hyy : im.r = y at hq0 ⊢
        obtain ⟨name, shared, segs, entry, exps, imps, fixs, thr, thrSize, inits, finis, needs, id, lines, unw, files, types, vars, places⟩ := y
        rw [hg0] at hq0
        simp only [RImg.e, sC, bC, iC, List.nil_append, Nat.zero_add] at hq0
        conv => arg 4; cbv
        refine roundG_nextW [(0, 0)] 1 ?_ ?_ ?_ (fun e he => by cases he) ?_ ?_
        · (conv => lhs; cbv); (conv => rhs; cbv)
          rw [hn, hq0, show (oi fun _ => IntKind.wrap .i64 (x 0 + 1)) = x 1 from by rw [hi, hx, hx, wrap_i64 (by omega)]; omega]
          rfl
        · omega
        · omega
        · simp [FgtOk, undT, undEs, undEs.undRows, undL, AV.und, blank, blankL, blankRow]
        · simp only [hp]
          refine ⟨⟨⟨⟨?_, by simp, by simp⟩, trivial⟩, trivial⟩, trivial⟩
          intro i row hrow
          cases i with
          | zero => simp at hrow; subst hrow; exact ⟨rfl, rfl⟩
          | succ i => simp at hrow
    · rename_i h
      simp only [h]
      simp only [hb, hi] at h
      simp at h
      conv => arg 4; cbv
      refine roundG_out hω ?_ (fun h => by cases h) ?_
      · conv => arg 4; cbv
        refine meanE_fin hω [] (by conv => lhs; cbv) ⟨rfl, rfl⟩ ?_ (fun e he => by cases he) ?_ ?_
        · rw [show l.length = 0 by omega, hg0]
        · trivial
        · simp
      · trivial
  | succ k =>
    have hgk := hgl (k + 1) hiN
    simp only
    conv => arg 4; cbv
    split
    · rename_i h
      simp only [h]
      simp only [hb, hi] at h
      simp at h
      conv => arg 4; cbv
      refine elemM hω hrows ?_ ?_ (fun _ => rfl) ?_ fun q hq => ?_
      · omega
      · omega
      · simp
      · have hq0 := hgs (k + 1) q (by rw [← hq, hxi]; rfl)
        obtain ⟨im, lb, lt, lu⟩ := q
        simp only [Ldd.e] at hq0 ⊢
        rw [← Img.r_e] at hq0 ⊢
        generalize hyy : im.r = y at hq0 ⊢
        obtain ⟨name, shared, segs, entry, exps, imps, fixs, thr, thrSize, inits, finis, needs, id, lines, unw, files, types, vars, places⟩ := y
        simp only [RImg.e, sC, bC, iC] at hq0
        conv => arg 4; cbv
        refine roundG_next (k + 2) ?_ ?_ ?_ (fun e he => by cases he) ?_ ?_
        · (conv => lhs; cbv); (conv => rhs; cbv)
          rw [hn, hr, hq0, show (oi fun _ => IntKind.wrap .i64 (x (k + 1) + 1)) = x (k + 1 + 1) from by rw [hi, hx, hx, wrap_i64 (by omega)]; push_cast; omega]
          rfl
        · omega
        · omega
        · simp [FgtOk, undT, undEs, undEs.undRows, undL, AV.und]
        · simp only [hp]
          refine ⟨⟨⟨⟨by omega, ?_, by simp only [List.length_singleton]; omega, by simp only [List.length_singleton]; omega⟩, trivial⟩, trivial⟩, trivial⟩
          intro i row hrow
          cases i with
          | zero => simp at hrow; subst hrow; exact ⟨rfl, rfl⟩
          | succ i => simp at hrow
    · rename_i h
      simp only [h]
      simp only [hb, hi] at h
      simp at h
      conv => arg 4; cbv
      refine roundG_out hω ?_ (fun h => by cases h) ?_
      · conv => arg 4; cbv
        refine meanE_fin hω (g (k + 1)) (by conv => lhs; cbv) ⟨?_, rfl⟩ ?_ (fun e he => by cases he) ?_ ?_
        · rw [hr, List.take_of_length_le (by omega)]
        · rw [show l.length = k + 1 by omega]
        · trivial
        · simp
      · trivial
end Go.Den.Z
