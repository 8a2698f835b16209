/-
  Part of the proof that FramesBeginAtTheCore returns true: the contracts of copies.Check and load.Validate.
  No condition.
-/
import Derived.Test.YtkimkplgmifckaaA3
import Derived.Test.YtkimkplgmifckaaB1
import Derived.Test.YtkimkplgmifckaaB4
import Derived.Test.YtkimkplgmifckaaC0
set_option linter.unusedSimpArgs false
set_option linter.unusedVariables false
set_option maxRecDepth 20000
set_option maxHeartbeats 8000000
namespace Go.Den.Z
open Go.Proofs
theorem ldd_imgs {l : List Ldd} (hl : LW Ldd.Wf l) : LW Img.Wf (l.map Ldd.img) := ⟨by simpa using hl.1, fun i y h => by
  simp only [List.getElem?_map, Option.map_eq_some_iff] at h
  obtain ⟨d, hd, rfl⟩ := h
  exact (hl.2 i d hd).img⟩
theorem copiesCheck_ok (l : List Ldd) (rows : List (List CV)) (hrows : rows = l.map Ldd.e) (hl : LW Ldd.Wf l) : ∃ c : Int × Int, (c.1 = 0 → c.2 = 0 ∧ l.length ≤ 5 ∧ ∀ (k : Nat) d, l[k]? = some d → d.Ok) ∧ PCalls P 21 [.c (.sl rows)] [] (fltV c.1 c.2) := by
  have hll : rows.length = l.length := by rw [hrows]; simp
  have hln := hl.1
  have him := imagesOf_ok l rows hrows hln
  have hsc := scopeCheck_ok (l.map Ldd.img) (l.map fun d => d.img.e) (by simp) (ldd_imgs hl)
  have hnd := needs_ok (l.map Ldd.img) (l.map fun d => d.img.e) (by simp) (ldd_imgs hl)
  simp only [List.length_map] at hsc hnd
  have himg : ∀ (k : Nat) d, l[k]? = some d → (l.map Ldd.img)[k]? = some d.img := fun k d h => by simp [h]
  generalize (l.map fun d => d.img.e) = ims at him hsc hnd
  obtain ⟨x, hx⟩ := counter 0
  obtain ⟨oi, ob, op, os, on, or_, om, hω⟩ := shields
  have hi : ∀ f, oi f = f () := hω.i
  have hb : ∀ f, ob f = f () := hω.b
  have hp : ∀ f, op f = f () := hω.p
  have hs : ∀ f, os f = f () := hω.s
  have hr : ∀ f, or_ f = f () := hω.r
  refine PCalls.runE hmix hω q_copies_Check ?_
  unfold c_copies_Check
  conv => arg 4; cbv
  refine meanE_call hω (him.any (by simp [undL, AV.und]) (by simp [AV.und]) _) trivial ?_
  conv => arg 4; cbv
  refine callE hω hsc (by (try (conv => cbv)); simp [undL, AV.und, agg]) (fun v => by simp [AV.und, undL, iV, bV, fltV, agg]) ?_ fun v hvs => ?_
  · simp [oConds]
  obtain ⟨v1, v2⟩ := v
  simp only at hvs
  conv => arg 4; cbv
  split
  · rename_i h
    simp only [h]
    simp only [bIf_rec, pIf_rec, bNot_rec, hb, hi, hp, Int.ofNat_eq_natCast] at h
    conv => arg 4; cbv
    refine finFlt hω (by conv => lhs; cbv) ?_ (fun e he => by cases he) ?_ ?_
    · intro hc
      simp only at hc
      have := hvs hc
      simp at h
      omega
    · trivial
    · simp [bIf_rec, pIf_rec, bNot_rec, hb, hi, hp, Int.ofNat_eq_natCast]
  rename_i h
  simp only [h]
  simp only [bIf_rec, pIf_rec, bNot_rec, hb, hi, hp, Int.ofNat_eq_natCast] at h
  simp at h
  obtain ⟨h1, h2⟩ := h
  obtain ⟨_, hl1, hl5, hio⟩ := hvs h1
  obtain ⟨nd, hnd0, hnd⟩ := hnd hl1 hl5
  obtain ⟨nd1, nd2, nd3⟩ := nd
  have hnd1 : nd1.und 0 := by rcases hnd0 with h | h <;> (simp only at h; subst h; trivial)
  simp only at hnd0 hnd
  rcases hnd0 with rfl | rfl
  all_goals conv => arg 4; cbv
  repeat' first
    | (refine meanE_id ?_; conv => arg 4; cbv)
    | (refine finFlt hω (by conv => lhs; cbv) ?_ (fun e he => by cases he) ?_ ?_)
    | (refine meanE_call hω (him.any (by simp [undL, AV.und]) (by simp [AV.und]) _) ?_ ?_)
    | (refine meanE_call hω (hnd.any (by simp [undL, AV.und]) (by simp [AV.und, undL, iV, bV]) _) ?_ ?_)
    | (refine elemM hω hrows ?_ ?_ (fun _ => rfl) ?_ fun q hq => ?_; rotate_left 3; have hio2 := hio _ _ (himg _ _ hq); obtain ⟨im, lb, lt, lu⟩ := q; simp only [Ldd.e] at hio2 ⊢; rw [← Img.r_e]; generalize im.r = y; obtain ⟨name, shared, segs, entry, exps, imps, fixs, thr, thrSize, inits, finis, needs, id, lines, unw, files, types, vars, places⟩ := y)
    | (refine meanE_loopF hω [0, 2, 16, 17, 18] l.length (fun i => ∀ q, l[i]? = some q → q.Ok) (fun i => [(18, iV (x i))]) ?_ (fun e he => by cases he) ?_ ?_ fun i hiN hok => ?_; rotate_left 3; have hxi : x i = i := by rw [hx]; omega)
    | (refine forF_next hok ?_ ?_ ?_ (fun e he => by cases he) ?_ ?_)
    | (refine roundG_out hω ?_ (fun h => by cases h) ?_)
    | (split <;> (rename_i h; simp only [h]; (try simp only [bIf_rec, pIf_rec, bNot_rec, hb, hi, hp, Int.ofNat_eq_natCast] at h); (try simp at h)))
    | (split <;> skip)
  all_goals first
    | trivial
    | omega
    | (intro hc; exact absurd hc (by decide))
    | (simp [FgtOk, undT, undEs, undEs.undRows, undL, AV.und]; done)
    | ((conv => lhs; cbv); (conv => rhs; cbv); simp only [hx 0]; rfl)
    | ((conv => lhs; cbv); (conv => rhs; cbv); simp only [hx 0])
    | ((conv => lhs; cbv); (conv => rhs; cbv); simp only [show (oi fun _ => IntKind.wrap .i64 (x i + 1)) = x (i + 1) from by rw [hi, hx, hx, wrap_i64 (by omega)]; push_cast; omega])
    | (intro q2 hq2; obtain rfl := Option.some.inj (hq.symm.trans (by rw [hxi]; exact hq2)); exact ⟨hio2, by simp only; omega, by simp only; omega⟩)
    | (intro _; exact ⟨rfl, hl5, fun k d hd => hok k (by have := (List.getElem?_eq_some_iff.1 hd).1; omega) d hd⟩)
    | (simp only [bIf_rec, pIf_rec, bNot_rec, hb, hi, hp, Int.ofNat_eq_natCast, oConds, St.ev]; simp [strip]; done)
    | ((repeat' apply And.intro) <;> first | trivial | (simp only [bIf_rec, pIf_rec, bNot_rec, hb, hi, hp, Int.ofNat_eq_natCast]; simp; done) | (simp only [bIf_rec, pIf_rec, bNot_rec, hb, hi, hp, Int.ofNat_eq_natCast]; simp; omega) | (simp only [bIf_rec, pIf_rec, bNot_rec, hb, hi, hp, Int.ofNat_eq_natCast, oConds, St.ev]; simp [strip]; done) | (simp only [bIf_rec, pIf_rec, bNot_rec, hb, hi, hp, Int.ofNat_eq_natCast]; grind))
   

end Go.Den.Z
namespace Go.Den.Z
open Go.Proofs
theorem outputOk (l : List Int) (rows : List (List CV)) (hrows : rows = l.map eI) (hl : l.length ≤ 1048576) : ∃ c : Bool, True ∧ PCalls P 23 [.c (.sl rows), .c (.sc (.func (.func 24) #[] #[]))] [] (bV c) := by
  have hc : ∀ n : Int, ∃ c : Bool, PCalls P 24 [iV n] [] (bV c) := fun n => by
    obtain ⟨c, _, h⟩ := outOfRange_ok n
    exact ⟨c, h⟩
  obtain ⟨G, hG⟩ : ∃ G : Int → Bool, ∀ n, PCalls P 24 [iV n] [] (bV (G n)) := ⟨fun n => Classical.choose (hc n), fun n => Classical.choose_spec (hc n)⟩
  obtain ⟨c, _, h⟩ := containsInt_ok l eI rows hrows (fun _ => rfl) (fun x => ⟨_, rfl⟩) 24 [] [] (fun e he => by cases he) trivial (by omega) (fun i => G (l.getD i 0)) (fun i n hn => by
    rw [List.getD_eq_getElem?_getD, hn]
    exact hG n)
  exact ⟨c, trivial, ACalls.le h fun C => ⟨fun v h => h, fun v h => fnC_rel h, trivial⟩⟩
theorem loadValidate_ok (p : Prc) (hp0 : p.Wf) (rl rm rc ro : List (List CV)) (hrl : rl = p.loaded.map Ldd.e) (hrm : rm = p.mem.map Pag.e) (hrc : rc = p.cores.map Cor.e) (hro : ro = p.out.map eI) (lz : Bool) : ∃ c : Int × Int, (c.1 = 0 → c.2 = 0 ∧ p.Ok) ∧ PCalls P 16 [agg [.sl rl, .sl rm, .sl rc, .sl ro, bC lz]] [] (fltV c.1 c.2) := by
  have hrcl : rc.length = p.cores.length := by rw [hrc]; simp
  have hcl := hp0.cores.1
  have h38 := copiesCheck_ok p.loaded rl hrl hp0.loaded
  have h39 := memValidate_ok p.mem rm hrm hp0.mem
  have h40 := outputOk p.out ro hro hp0.out.1
  obtain ⟨x, hx⟩ := counter 0
  obtain ⟨oi, ob, op, os, on, or_, om, hω⟩ := shields
  have hi : ∀ f, oi f = f () := hω.i
  have hb : ∀ f, ob f = f () := hω.b
  have hp : ∀ f, op f = f () := hω.p
  have hs : ∀ f, os f = f () := hω.s
  have hr : ∀ f, or_ f = f () := hω.r
  refine PCalls.runE hmix hω q_load_Validate ?_
  unfold c_load_Validate
  conv => arg 4; cbv
  refine callE hω h38 (by (try (conv => cbv)); simp [undL, AV.und, agg]) (fun v => by simp [AV.und, undL, iV, bV, fltV, agg]) ?_ fun v hvs => ?_
  · simp [oConds]
  obtain ⟨v1, v2⟩ := v
  simp only at hvs
  conv => arg 4; cbv
  split
  · rename_i h
    simp only [h]
    simp only [bIf_rec, pIf_rec, bNot_rec, hb, hi, hp, Int.ofNat_eq_natCast] at h
    conv => arg 4; cbv
    refine finFlt hω (by conv => lhs; cbv) ?_ (fun e he => by cases he) ?_ ?_
    · intro hc
      simp only at hc
      have := hvs hc
      simp at h
      omega
    · trivial
    · simp [bIf_rec, pIf_rec, bNot_rec, hb, hi, hp, Int.ofNat_eq_natCast]
  rename_i h
  simp only [h]
  simp only [bIf_rec, pIf_rec, bNot_rec, hb, hi, hp, Int.ofNat_eq_natCast] at h
  simp at h
  obtain ⟨h1, h2⟩ := h
  obtain ⟨_, hl5, hld⟩ := hvs h1
  conv => arg 4; cbv
  refine callE hω h39 (by (try (conv => cbv)); simp [undL, AV.und, agg]) (fun v => by simp [AV.und, undL, iV, bV, fltV, agg]) ?_ fun v hvs => ?_
  · simp [oConds]
  obtain ⟨w1, w2⟩ := v
  simp only at hvs
  conv => arg 4; cbv
  split
  · rename_i h
    simp only [h]
    simp only [bIf_rec, pIf_rec, bNot_rec, hb, hi, hp, Int.ofNat_eq_natCast] at h
    conv => arg 4; cbv
    refine finFlt hω (by conv => lhs; cbv) ?_ (fun e he => by cases he) ?_ ?_
    · intro hc
      simp only at hc
      have := hvs hc
      simp at h
      omega
    · trivial
    · simp [bIf_rec, pIf_rec, bNot_rec, hb, hi, hp, Int.ofNat_eq_natCast]
  rename_i h
  simp only [h]
  simp only [bIf_rec, pIf_rec, bNot_rec, hb, hi, hp, Int.ofNat_eq_natCast] at h
  simp at h
  obtain ⟨h3, h4⟩ := h
  obtain ⟨_, hmo⟩ := hvs h3
  conv => arg 4; cbv
  repeat' first
    | (refine meanE_id ?_; conv => arg 4; cbv)
    | (refine finFlt hω (by conv => lhs; cbv) ?_ (fun e he => by cases he) ?_ ?_)
    | (refine callE hω h40 (by (try (conv => cbv)); simp [undL, AV.und, agg]) (fun v => by simp [AV.und, undL, iV, bV, fltV, agg]) ?_ fun v hv => ?_)
    | (refine callE hω hcall (by (try (conv => cbv)); simp [undL, AV.und, agg]) (fun v => by simp [AV.und, undL, iV, bV, fltV, agg]) ?_ fun v hv => ?_; rotate_left 1; obtain ⟨u1, u2⟩ := v; simp only at hv)
    | (have hpos : 0 ≤ x i ∧ x i < p.cores.length := (by omega)
       obtain ⟨q, hq, hq2⟩ := map_get Cor.e p.cores hpos.1 hpos.2
       rw [← hrc] at hq2
       have hqw := hp0.cores.2 _ _ hq
       have hcall := bufferValidate_ok q hqw
       have h8 := hqw.regs.1
       have h16 := hqw.vecs.1
       refine meanE_elem hω _ hpos.1 hq2 (by simp [Cor.e, h8, h16]) ?_ ?_
       rotate_left 1
       obtain ⟨regs, vecs, flags, pc, tp, user, stopped, handler, cause, saved, buf⟩ := q
       simp only at h8 h16
       obtain ⟨r0, r1, r2, r3, r4, r5, r6, r7, rfl⟩ := len8 h8
       obtain ⟨v0, v1, v2, v3, v4, v5, v6, v7, v8, v9, u0, u1, u2, u3, u4, u5, rfl⟩ := len16 h16
       simp only [Cor.e, List.map_cons, List.map_nil, List.cons_append, List.nil_append] at hcall ⊢
       generalize buf.map Pnd.e = rbuf at hcall ⊢)
    | (refine meanE_loopF hω [2, 48, 49, 50] p.cores.length (fun i => ∀ q, p.cores[i]? = some q → q.Ok) (fun i => [(50, iV (x i))]) ?_ (fun e he => by cases he) ?_ ?_ fun i hiN hok => ?_; rotate_left 3; have hxi : x i = i := by rw [hx]; omega)
    | (refine forF_next hok ?_ ?_ ?_ (fun e he => by cases he) ?_ ?_)
    | (refine roundG_out hω ?_ (fun h => by cases h) ?_)
    | (split <;> (rename_i h; simp only [h]; (try simp only [bIf_rec, pIf_rec, bNot_rec, hb, hi, hp, Int.ofNat_eq_natCast] at h); (try simp at h)))
    | (split <;> skip)
  all_goals first
    | trivial
    | omega
    | (intro hc; exact absurd hc (by decide))
    | (simp [FgtOk, undT, undEs, undEs.undRows, undL, AV.und]; done)
    | ((conv => lhs; cbv); (conv => rhs; cbv); simp only [hx 0]; rfl)
    | ((conv => lhs; cbv); (conv => rhs; cbv); simp only [hx 0])
    | ((conv => lhs; cbv); (conv => rhs; cbv); simp only [show (oi fun _ => IntKind.wrap .i64 (x i + 1)) = x (i + 1) from by rw [hi, hx, hx, wrap_i64 (by omega)]; push_cast; omega])
    | (intro q2 hq2; obtain rfl := Option.some.inj (hq.symm.trans (by rw [hxi]; exact hq2)); have h5 := hv (by omega); exact ⟨h5.2.1, fun i q hq => ⟨(h5.2.2 i q hq).1, (h5.2.2 i q hq).2⟩⟩)
    | (intro _; exact ⟨rfl, hl5, hld, hmo, by omega, fun k d hd => hok k (by have := (List.getElem?_eq_some_iff.1 hd).1; omega) d hd⟩)
    | (intro hc; have := hv hc; exfalso; simp_all; done)
    | (simp only [bIf_rec, pIf_rec, bNot_rec, hb, hi, hp, Int.ofNat_eq_natCast, oConds, St.ev]; simp [strip]; done)
    | ((repeat' apply And.intro) <;> first | trivial | (simp only [bIf_rec, pIf_rec, bNot_rec, hb, hi, hp, Int.ofNat_eq_natCast]; simp; done) | (simp only [bIf_rec, pIf_rec, bNot_rec, hb, hi, hp, Int.ofNat_eq_natCast]; simp; omega) | (simp only [bIf_rec, pIf_rec, bNot_rec, hb, hi, hp, Int.ofNat_eq_natCast, oConds, St.ev]; simp [strip]; done) | (simp only [bIf_rec, pIf_rec, bNot_rec, hb, hi, hp, Int.ofNat_eq_natCast]; grind))
   

end Go.Den.Z
