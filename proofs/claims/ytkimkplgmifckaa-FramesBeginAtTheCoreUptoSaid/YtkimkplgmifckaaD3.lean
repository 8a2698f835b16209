/-
  Part of the proof that FramesBeginAtTheCore returns true: the contract of frames.Walk.
  No condition.
-/
import Derived.Test.YtkimkplgmifckaaC1
import Derived.Test.YtkimkplgmifckaaD1
import Derived.Test.YtkimkplgmifckaaD2
set_option linter.unusedSimpArgs false
set_option linter.unusedVariables false
set_option maxRecDepth 20000
set_option maxHeartbeats 8000000
namespace Go.Den.Z
open Go.Proofs
theorem undL_app {n : Nat} : ∀ {a b : List AV}, undL n a → undL n b → undL n (a ++ b)
  | [], _, _, h => h
  | _ :: _, _, h, k => ⟨h.1, undL_app h.2 k⟩
theorem undL_w {n : Nat} : ∀ (l : List Int), undL n (l.map wV)
  | [] => trivial
  | _ :: r => ⟨trivial, undL_w r⟩
theorem wkE_und (n : Nat) (rl rm rc ro : List (List CV)) (lz : Bool) (k : Int) (w : Wk) (r : List Ent) (h : undEs n r) : undEs n (wkE rl rm rc ro lz k w :: r) :=
  ⟨⟨undL_app (undL_app (by simp [undL, AV.und, iV, bV]) (undL_w _)) (by simp [undL, AV.und, iV, wV]), trivial⟩, h⟩
theorem meanE_F {P : Program} {α : Type} {F F' : α → Prop} {Q : α → AX → St → Prop} {x : Prop × Out} (h : ∀ v, F' v → F v) (hm : MeanE P F' Q x) : MeanE P F Q x := by
  obtain ⟨v, h1, h2⟩ := hm
  exact ⟨v, h v h1, h2⟩
theorem walkF_none {p : Prc} {buf : List Pnd} {n : Nat} {w : Wk} (hn : 0 < n) (h : codeAt p.loaded w.pc = none) : walkF p buf n w = [] := by
  cases n with
  | zero => rfl
  | succ n => rw [walkF, h]
theorem walkF_stop {p : Prc} {buf : List Pnd} {n : Nat} {w : Wk} {i : Nat} (hn : 0 < n) (h : codeAt p.loaded w.pc = some i) (hu : upOf p buf w = none) : walkF p buf n w = [(w.pc, 0)] := by
  cases n with
  | zero => omega
  | succ n => rw [walkF, h]; simp only [hu]
theorem walkF_next {p : Prc} {buf : List Pnd} {n : Nat} {w : Wk} {i : Nat} {x : Int × Wk} (hn : 0 < n) (h : codeAt p.loaded w.pc = some i) (hu : upOf p buf w = some x) : walkF p buf n w = (w.pc, x.1) :: walkF p buf (n - 1) x.2 := by
  cases n with
  | zero => omega
  | succ n => rw [walkF, h]; simp only [hu, Nat.add_sub_cancel]
theorem upOf_ok {p : Prc} (h : ∀ (k : Nat) q, p.mem[k]? = some q → LW u8r q.data) {buf : List Pnd} {w : Wk} (hw : WkOk w) {x : Int × Wk} (hx : upOf p buf w = some x) : u32r x.1 ∧ WkOk x.2 := by
  unfold upOf at hx
  rw [Option.bind_eq_some_iff] at hx
  obtain ⟨r, _, hx⟩ := hx
  exact upRow_ok h hw hx

theorem walk_ok (p : Prc) (hpw : p.Wf) (rl rm rc ro : List (List CV)) (hrl : rl = p.loaded.map Ldd.e) (hrm : rm = p.mem.map Pag.e) (hrc : rc = p.cores.map Cor.e) (lz : Bool) (k : Int) (g : Int × Int) (hg : g.1 = 0 → g.2 = 0 ∧ p.Ok) (hval : PCalls P 16 [agg [.sl rl, .sl rm, .sl rc, .sl ro, bC lz]] [] (fltV g.1 g.2)) :
    ∃ v : List (List CV) × Int × Int, ((g.1 ≠ 0 → v = ([], g)) ∧ (g.1 = 0 → (k < 0 ∨ p.cores.length ≤ k) → v = ([], 3, -9)) ∧ (g.1 = 0 → 0 ≤ k → ∀ c, p.cores[k.toNat]? = some c → v = ((walkOf p c).map frE, 0, 0))) ∧
      PCalls P 8 [agg [.sl rl, .sl rm, .sl rc, .sl ro, bC lz], iV k] [] (.tu [.c (.sl v.1), fltV v.2.1 v.2.2]) := by
  have hrcl : rc.length = p.cores.length := by rw [hrc]; simp
  have hcl := hpw.cores.1
  obtain ⟨g1, g2⟩ := g
  simp only at hg hval ⊢
  obtain ⟨x, hx⟩ := counter 0
  obtain ⟨oi, ob, op, os, on, or_, om, hω⟩ := shields
  have hi : ∀ f, oi f = f () := hω.i
  have hb : ∀ f, ob f = f () := hω.b
  have hp : ∀ f, op f = f () := hω.p
  have hs : ∀ f, os f = f () := hω.s
  have hr : ∀ f, or_ f = f () := hω.r
  have hn : ∀ f, on f = f () := hω.n
  refine PCalls.runE hmix hω q_frames_Walk ?_
  unfold c_frames_Walk
  conv => arg 4; cbv
  refine meanE_call hω (hval.any (by simp [undL, AV.und, agg]) (by simp [AV.und, fltV, agg, undL]) _) ?_ ?_
  · first | (simp [bIf_rec, pIf_rec, bNot_rec, hb, hi, hp, Int.ofNat_eq_natCast, oConds, strip, St.ev]; done) | (simp only [bIf_rec, pIf_rec, bNot_rec, hb, hi, hp, Int.ofNat_eq_natCast]; done) | (simp [bIf_rec, pIf_rec, bNot_rec, hb, hi, hp, Int.ofNat_eq_natCast, oConds, strip, St.ev]; (repeat' apply And.intro) <;> first | exact Int.NonNeg.mk _ | omega)
  conv => arg 4; cbv
  split
  · rename_i h
    simp only [h]
    simp only [bIf_rec, pIf_rec, bNot_rec, hb, hi, hp, Int.ofNat_eq_natCast] at h
    have hne : g1 ≠ 0 := fun h0 => by
      have := (hg h0).1
      simp at h
      omega
    conv => arg 4; cbv
    refine meanE_fin hω ([], g1, g2) (by (conv => lhs; cbv); all_goals rfl) ⟨rfl, rfl⟩ ⟨fun _ => rfl, fun h => absurd h hne, fun h => absurd h hne⟩ (fun e he => by cases he) ?_ ?_
    · simp [bIf_rec, pIf_rec, bNot_rec, hb, hi, hp, Int.ofNat_eq_natCast]
    · simp
  rename_i h
  simp only [h]
  simp only [bIf_rec, pIf_rec, bNot_rec, hb, hi, hp, Int.ofNat_eq_natCast] at h
  simp at h
  obtain ⟨rfl, rfl⟩ := h
  obtain ⟨_, hpo⟩ := hg rfl
  conv => arg 4; cbv
  split
  · rename_i h
    simp only [h]
    simp only [bIf_rec, pIf_rec, bNot_rec, hb, hi, hp, Int.ofNat_eq_natCast, condT] at h
    conv => arg 4; cbv
    refine meanE_fin hω ([], 3, -9) (by (conv => lhs; cbv); all_goals rfl) ⟨rfl, rfl⟩ ⟨fun h => absurd rfl h, fun _ _ => rfl, fun _ hk0 c hc => ?_⟩ (fun e he => by cases he) ?_ ?_
    · have := (List.getElem?_eq_some_iff.1 hc).1
      simp at h
      omega
    · simp [bIf_rec, pIf_rec, bNot_rec, hb, hi, hp, Int.ofNat_eq_natCast]
    · simp
  rename_i h
  simp only [h]
  simp only [bIf_rec, pIf_rec, bNot_rec, hb, hi, hp, Int.ofNat_eq_natCast, condT] at h
  simp at h
  conv => arg 4; cbv
  obtain ⟨c, hk⟩ : ∃ c, p.cores[k.toNat]? = some c := ⟨p.cores[k.toNat]'(by omega), by simp⟩
  have hk0 : 0 ≤ k := by omega
  have hkw := hpw.cores.2 _ _ hk
  have hrk : rc[k.toNat]? = some c.e := by rw [hrc]; simp [hk]
  have hcl : c.e.length = 33 := by simp [Cor.e, hkw.regs.1, hkw.vecs.1]
  refine meanE_elem hω _ hk0 hrk hcl ?_ ?_
  · simp [bIf_rec, pIf_rec, bNot_rec, hb, hi, hp, Int.ofNat_eq_natCast]; try omega
  refine meanE_F (F' := fun v => v = ((walkOf p c).map frE, 0, 0)) (fun v hv => ⟨fun h => absurd rfl h, fun _ hr => by omega, fun _ _ c2 hc2 => by rw [hv, Option.some.inj (hk.symm.trans hc2)]⟩) ?_
  have hup6 := fun (w : Wk) (hw : WkOk w) E0 E1 E2 E3 E5 h0 h1 h2 h3 h5 => up6_ok p hpw hpo rl rm rc ro hrl hrm hrc lz k c hk0 hk w hw E0 E1 E2 E3 E5 h0 h1 h2 h3 h5
  have hup8 := fun (w : Wk) (hw : WkOk w) E0 E1 E2 E3 E5 E6 E7 h0 h1 h2 h3 h5 h6 h7 => up8_ok p hpw hpo rl rm rc ro hrl hrm hrc lz k c hk0 hk w hw E0 E1 E2 E3 E5 E6 E7 h0 h1 h2 h3 h5 h6 h7
  have hmd : ∀ (k : Nat) q, p.mem[k]? = some q → LW u8r q.data := fun k q h => (hpw.mem.2 k q h).data
  have h8 := hkw.regs.1
  have h16 := hkw.vecs.1
  have hrgs := hkw.regs.2
  have hpc := hkw.pc
  have hW0 : WkOk ⟨c.regs, true, c.pc, c.pc⟩ := ⟨hkw.regs, hpc, by unfold u32r at hpc; simp only; omega⟩
  have hwalk0 : walkOf p c = walkF p c.buf 40 ⟨c.regs, true, c.pc, c.pc⟩ := rfl
  generalize walkOf p c = RES at hwalk0 ⊢
  clear hk hrk hcl hkw
  obtain ⟨regs, vecs, flags, pc, tp, user, stopped, handler, cause, saved, buf⟩ := c
  simp only at h8 h16 hrgs hpc hup6 hup8 hW0 hwalk0
  obtain ⟨c0, c1, c2, c3, c4, c5, c6, c7, rfl⟩ := len8 h8
  obtain ⟨v0, v1, v2, v3, v4, v5, v6, v7, v8, v9, u0, u1, u2, u3, u4, u5, rfl⟩ := len16 h16
  simp only [Cor.e, List.map_cons, List.map_nil, List.cons_append, List.nil_append]
  generalize buf.map Pnd.e = rb
  obtain ⟨WE, hWE⟩ : ∃ WE : Wk → Ent, ∀ w, WE w = wkE rl rm rc ro lz k w := ⟨_, fun _ => rfl⟩
  obtain ⟨app, happ⟩ : ∃ app : List (List CV) → Int → Int → List (List CV), ∀ l a b, app l a b = l ++ [[.sc (.int .u32 a), .sc (.int .u32 b)]] := ⟨_, fun _ _ _ => rfl⟩
  have epc0 : (oi fun _ => IntKind.i64.wrap pc) = pc := by rw [hi, wrap_i64 (by unfold u32r at hpc; omega)]
  conv => arg 4; cbv
  simp only [epc0]
  refine meanE_loopG hω [2, 5, 8, 9] 7 (fun y : Nat × List (List CV) × Wk => match y.1 with
    | 0 => { t := slots 84 [(2, .op 0 0 0), (5, .op 1 0 0), (8, .op 4 0 0), (9, .c (.sc (.slice none 0 0)))], B := [], L := [.mem 5 [[.c (.sl rl), .c (.sl rm), .c (.sl rc), .c (.sl ro), bV lz]], .mem 2 [[iV 0, iV 0]], .mem 2 [[iV 0, iV 0]], .mem 33 [[wV c0, wV c1, wV c2, wV c3, wV c4, wV c5, wV c6, wV c7, wV v0, wV v1, wV v2, wV v3, wV v4, wV v5, wV v6, wV v7, wV v8, wV v9, wV u0, wV u1, wV u2, wV u3, wV u4, wV u5, iV flags, wV pc, wV tp, bV user, bV stopped, wV handler, iV cause, wV saved, .c (.sl rb)]], WE y.2.2] }
    | n + 1 => { t := slots 84 [(2, .op 0 0 0), (5, .op 1 0 0), (8, .op 4 0 0), (9, .gs 6 (n + 1))], B := [], L := [.mem 5 [[.c (.sl rl), .c (.sl rm), .c (.sl rc), .c (.sl ro), bV lz]], .mem 2 [[iV 0, iV 0]], .mem 2 [[iV 0, iV 0]], .mem 33 [[wV c0, wV c1, wV c2, wV c3, wV c4, wV c5, wV c6, wV c7, wV v0, wV v1, wV v2, wV v3, wV v4, wV v5, wV v6, wV v7, wV v8, wV v9, wV u0, wV u1, wV u2, wV u3, wV u4, wV u5, iV flags, wV pc, wV tp, bV user, bV stopped, wV handler, iV cause, wV saved, .c (.sl rb)]], WE y.2.2, .mem 2 [[.any, .any]], .grow 2 44 y.2.1] })
    (fun y => y.1 ≤ 40 ∧ y.2.1.length = y.1 ∧ y.2.1 ++ (walkF p buf (40 - y.1) y.2.2).map frE = RES.map frE ∧ WkOk y.2.2) (fun y => 40 - y.1) (0, [], ⟨[c0, c1, c2, c3, c4, c5, c6, c7], true, pc, pc⟩) ?_ ⟨by simp, rfl, by rw [hwalk0]; rfl, hW0⟩ (fun e he => by cases he) ?_ ?_ ?_
  · rw [hWE]
    (conv => lhs; cbv); (conv => rhs; cbv)
  · simp [FgtOk, undT, undEs, undEs.undRows, undL, AV.und]
  · simp
  rintro ⟨n, rows, w⟩ ⟨hn40, hrl2, hwk, hwo⟩
  simp only at hn40 hrl2 hwk hwo
  have hup6 := hup6 w hwo
  have hup8 := hup8 w hwo
  have huo := fun x (hx : upOf p buf w = some x) => upOf_ok hmd hwo hx
  have hwf0 := fun (hn : 0 < 40 - n) (h : codeAt p.loaded w.pc = none) => walkF_none (p := p) (buf := buf) (n := 40 - n) (w := w) hn h
  have hwf1 := fun i (hn : 0 < 40 - n) (h : codeAt p.loaded w.pc = some i) (hu : upOf p buf w = none) => walkF_stop (p := p) (buf := buf) (n := 40 - n) (w := w) hn h hu
  have hwf2 := fun i x (hn : 0 < 40 - n) (h : codeAt p.loaded w.pc = some i) (hu : upOf p buf w = some x) => walkF_next (p := p) (buf := buf) (n := 40 - n) (w := w) hn h hu
  have hEw := hWE w
  have hwregs := hwo.regs.1
  have hwpc := hwo.pc
  generalize hU : upOf p buf w = U at hup6 hup8 huo hwf1 hwf2
  unfold upW at hup6 hup8
  generalize hwlk : walkF p buf (40 - n) w = WF at hwk hwf0 hwf1 hwf2
  simp only [← hWE] at hup6 hup8
  obtain ⟨wr, wa, wp, wlk⟩ := w
  simp only at hwregs hwpc hwf0 hwf1 hwf2
  obtain ⟨r0, r1, r2, r3, r4, r5, r6, r7, rfl⟩ := len8 hwregs
  unfold wkE at hEw
  simp only [List.map_cons, List.map_nil, List.cons_append, List.nil_append] at hEw
  obtain ⟨kn, hkn⟩ : ∃ kn : Int, kn = if wa = true then 255 else 192 := ⟨_, rfl⟩
  rw [← hkn] at hEw
  have epc : (oi fun _ => IntKind.i64.wrap wp) = wp := by rw [hi, wrap_i64 (by unfold u32r at hwpc; omega)]
  cases n with
  | zero =>
    simp only
    rw [hEw]
    have hcd := code_ok p.loaded rl rm rc ro hrl hpw.loaded.1 hpo.loaded hpw.loaded lz wp (by unfold u32r at hwpc; omega)
    conv => arg 4; cbv
    split
    · rename_i h
      simp only [h]
      simp only [bIf_rec, pIf_rec, bNot_rec, hb, hi, hp, Int.ofNat_eq_natCast] at h
      have hlt : 0 < 40 - 0 := by omega
      conv => arg 4; cbv
      simp only [epc]
      refine callQE hω hcd (by (try (conv => cbv)); simp [undL, AV.und, agg]) (fun v => by simp [AV.und, undL, iV, bV, wV, fltV, agg]) ?_ fun v hv => ?_
      · first | (simp [bIf_rec, pIf_rec, bNot_rec, hb, hi, hp, Int.ofNat_eq_natCast, oConds, strip, St.ev]; done) | (simp only [bIf_rec, pIf_rec, bNot_rec, hb, hi, hp, Int.ofNat_eq_natCast]; done) | (simp [bIf_rec, pIf_rec, bNot_rec, hb, hi, hp, Int.ofNat_eq_natCast, oConds, strip, St.ev]; (repeat' apply And.intro) <;> first | exact Int.NonNeg.mk _ | omega)
      obtain ⟨q1, q2, q3⟩ := v
      cases hca : codeAt p.loaded wp with
      | none =>
        rw [codeR_none hca] at hv
        simp only [Prod.mk.injEq] at hv
        obtain ⟨rfl, rfl, rfl⟩ := hv
        rw [hwf0 hlt hca] at hwk
        simp only [List.map_nil, List.append_nil] at hwk
        conv => arg 4; cbv
        refine roundG_out hω ?_ (fun h => by cases h) ?_
        · conv => arg 4; cbv
          refine meanE_fin hω (_, 0, 0) (by (conv => lhs; cbv); all_goals rfl) ⟨rfl, rfl⟩ ?_ (fun e he => by cases he) ?_ ?_
          · rw [← hwk, List.length_eq_zero_iff.1 hrl2]
          · simp
          · simp
        · first | (simp [bIf_rec, pIf_rec, bNot_rec, hb, hi, hp, Int.ofNat_eq_natCast, oConds, strip, St.ev]; done) | (simp only [bIf_rec, pIf_rec, bNot_rec, hb, hi, hp, Int.ofNat_eq_natCast]; done) | (simp [bIf_rec, pIf_rec, bNot_rec, hb, hi, hp, Int.ofNat_eq_natCast, oConds, strip, St.ev]; (repeat' apply And.intro) <;> first | exact Int.NonNeg.mk _ | omega)
      | some ci =>
        obtain ⟨d, hd⟩ := codeAt_get hca
        rw [codeR_some hd hca] at hv
        simp only [Prod.mk.injEq] at hv
        obtain ⟨rfl, hv2, rfl⟩ := hv
        clear hv2
        obtain ⟨cii, hcii⟩ : ∃ cii : Int, cii = ci := ⟨_, rfl⟩
        rw [← hcii]
        conv => arg 4; cbv
        cases U with
        | none =>
          have hcall := hup6 (.mem 5 [[.c (.sl rl), .c (.sl rm), .c (.sl rc), .c (.sl ro), bV lz]]) (.mem 2 [[iV 0, iV 0]]) (.mem 2 [[iV 0, iV 0]]) (.mem 33 [[wV c0, wV c1, wV c2, wV c3, wV c4, wV c5, wV c6, wV c7, wV v0, wV v1, wV v2, wV v3, wV v4, wV v5, wV v6, wV v7, wV v8, wV v9, wV u0, wV u1, wV u2, wV u3, wV u4, wV u5, iV flags, wV pc, wV tp, bV user, bV stopped, wV handler, iV cause, wV saved, .c (.sl rb)]]) (.mem 2 [[wV wp, wV 0]]) (by simp [Ent.und, undL, AV.und, iV, wV, bV]) (by simp [Ent.und, undL, AV.und, iV, wV, bV]) (by simp [Ent.und, undL, AV.und, iV, wV, bV]) (by simp [Ent.und, undL, AV.und, iV, wV, bV]) (by simp [Ent.und, undL, AV.und, iV, wV, bV])
          simp only [upR, upW] at hcall
          rw [hEw] at hcall
          refine meanE_callD hω [] [.mem 5 [[.c (.sl rl), .c (.sl rm), .c (.sl rc), .c (.sl ro), bV lz]], .mem 2 [[iV 0, iV 0]], .mem 2 [[iV 0, iV 0]], .mem 33 [[wV c0, wV c1, wV c2, wV c3, wV c4, wV c5, wV c6, wV c7, wV v0, wV v1, wV v2, wV v3, wV v4, wV v5, wV v6, wV v7, wV v8, wV v9, wV u0, wV u1, wV u2, wV u3, wV u4, wV u5, iV flags, wV pc, wV tp, bV user, bV stopped, wV handler, iV cause, wV saved, .c (.sl rb)]], .mem 17 [[.c (.sl rl), .c (.sl rm), .c (.sl rc), .c (.sl ro), bV lz, iV k, wV r0, wV r1, wV r2, wV r3, wV r4, wV r5, wV r6, wV r7, iV kn, wV wp, iV wlk]], .mem 2 [[wV wp, wV 0]]] hcall rfl rfl ?_ ?_
          · first | (simp [bIf_rec, pIf_rec, bNot_rec, hb, hi, hp, Int.ofNat_eq_natCast, oConds, strip, St.ev]; done) | (simp only [bIf_rec, pIf_rec, bNot_rec, hb, hi, hp, Int.ofNat_eq_natCast]; done) | (simp [bIf_rec, pIf_rec, bNot_rec, hb, hi, hp, Int.ofNat_eq_natCast, oConds, strip, St.ev]; (repeat' apply And.intro) <;> first | exact Int.NonNeg.mk _ | omega)
          rw [hwf1 ci hlt hca rfl] at hwk
          conv => arg 4; cbv
          refine roundG_out hω ?_ (fun h => by cases h) ?_
          · conv => arg 4; cbv
            refine meanE_fin hω (_, 0, 0) (by (conv => lhs; cbv); all_goals rfl) ⟨rfl, rfl⟩ ?_ (fun e he => by cases he) ?_ ?_
            · rw [hr, hn, ← hwk, List.length_eq_zero_iff.1 hrl2]; rfl
            · simp
            · simp
          · simp only [hp]
            repeat' apply And.intro
            all_goals first
              | trivial
              | omega
              | (simp only [List.length_singleton]; omega)
              | (intro i row hrow
                 cases i with
                 | zero => simp at hrow; subst hrow; exact ⟨rfl, rfl⟩
                 | succ i => simp at hrow)
        | some x =>
          obtain ⟨bse, w2⟩ := x
          obtain ⟨hbu, hw2⟩ := huo (bse, w2) rfl
          have hcall := hup6 (.mem 5 [[.c (.sl rl), .c (.sl rm), .c (.sl rc), .c (.sl ro), bV lz]]) (.mem 2 [[iV 0, iV 0]]) (.mem 2 [[iV 0, iV 0]]) (.mem 33 [[wV c0, wV c1, wV c2, wV c3, wV c4, wV c5, wV c6, wV c7, wV v0, wV v1, wV v2, wV v3, wV v4, wV v5, wV v6, wV v7, wV v8, wV v9, wV u0, wV u1, wV u2, wV u3, wV u4, wV u5, iV flags, wV pc, wV tp, bV user, bV stopped, wV handler, iV cause, wV saved, .c (.sl rb)]]) (.mem 2 [[wV wp, wV 0]]) (by simp [Ent.und, undL, AV.und, iV, wV, bV]) (by simp [Ent.und, undL, AV.und, iV, wV, bV]) (by simp [Ent.und, undL, AV.und, iV, wV, bV]) (by simp [Ent.und, undL, AV.und, iV, wV, bV]) (by simp [Ent.und, undL, AV.und, iV, wV, bV])
          simp only [upR, upW] at hcall
          rw [hEw] at hcall
          refine meanE_callD hω [] [.mem 5 [[.c (.sl rl), .c (.sl rm), .c (.sl rc), .c (.sl ro), bV lz]], .mem 2 [[iV 0, iV 0]], .mem 2 [[iV 0, iV 0]], .mem 33 [[wV c0, wV c1, wV c2, wV c3, wV c4, wV c5, wV c6, wV c7, wV v0, wV v1, wV v2, wV v3, wV v4, wV v5, wV v6, wV v7, wV v8, wV v9, wV u0, wV u1, wV u2, wV u3, wV u4, wV u5, iV flags, wV pc, wV tp, bV user, bV stopped, wV handler, iV cause, wV saved, .c (.sl rb)]], WE w2, .mem 2 [[wV wp, wV 0]]] hcall rfl rfl ?_ ?_
          · first | (simp [bIf_rec, pIf_rec, bNot_rec, hb, hi, hp, Int.ofNat_eq_natCast, oConds, strip, St.ev]; done) | (simp only [bIf_rec, pIf_rec, bNot_rec, hb, hi, hp, Int.ofNat_eq_natCast]; done) | (simp [bIf_rec, pIf_rec, bNot_rec, hb, hi, hp, Int.ofNat_eq_natCast, oConds, strip, St.ev]; (repeat' apply And.intro) <;> first | exact Int.NonNeg.mk _ | omega)
          rw [hwf2 ci (bse, w2) hlt hca rfl] at hwk
          simp only at hbu hw2 hwk
          conv => arg 4; cbv
          refine roundG_nextW [(5, 0)] (1, [[wC wp, wC bse]], w2) ?_ ?_ ?_ (fun e he => by cases he) ?_ ?_
          · (conv => lhs; cbv); (conv => rhs; cbv)
            rw [hn]; rfl
          · obtain rfl := List.length_eq_zero_iff.1 hrl2
            exact ⟨by simp, rfl, by simpa [frE] using hwk, hw2⟩
          · simp only; omega
          · simp [FgtOk, undT, undEs, undEs.undRows, undL, AV.und, blank, blankL, blankRow]
            rw [hWE]
            exact wkE_und _ _ _ _ _ _ _ _ _ (by simp [undEs, undEs.undRows, undL, AV.und])
          · simp only [hp]
            repeat' apply And.intro
            all_goals first
              | trivial
              | omega
              | (simp only [List.length_singleton]; omega)
              | (intro i row hrow
                 cases i with
                 | zero => simp at hrow; subst hrow; exact ⟨rfl, rfl⟩
                 | succ i => simp at hrow)
    · rename_i h
      simp only [h]
      simp only [bIf_rec, pIf_rec, bNot_rec, hb, hi, hp, Int.ofNat_eq_natCast] at h
      exact absurd h (by decide)
  | succ n =>
    simp only
    rw [hEw]
    have hcd := code_ok p.loaded rl rm rc ro hrl hpw.loaded.1 hpo.loaded hpw.loaded lz wp (by unfold u32r at hwpc; omega)
    conv => arg 4; cbv
    split
    · rename_i h
      simp only [h]
      simp only [bIf_rec, pIf_rec, bNot_rec, hb, hi, hp, Int.ofNat_eq_natCast] at h
      have hlt : 0 < 40 - (n + 1) := by simp at h; omega
      conv => arg 4; cbv
      simp only [epc]
      refine callQE hω hcd (by (try (conv => cbv)); simp [undL, AV.und, agg]) (fun v => by simp [AV.und, undL, iV, bV, wV, fltV, agg]) ?_ fun v hv => ?_
      · first | (simp [bIf_rec, pIf_rec, bNot_rec, hb, hi, hp, Int.ofNat_eq_natCast, oConds, strip, St.ev]; done) | (simp only [bIf_rec, pIf_rec, bNot_rec, hb, hi, hp, Int.ofNat_eq_natCast]; done) | (simp [bIf_rec, pIf_rec, bNot_rec, hb, hi, hp, Int.ofNat_eq_natCast, oConds, strip, St.ev]; (repeat' apply And.intro) <;> first | exact Int.NonNeg.mk _ | omega)
      obtain ⟨q1, q2, q3⟩ := v
      cases hca : codeAt p.loaded wp with
      | none =>
        rw [codeR_none hca] at hv
        simp only [Prod.mk.injEq] at hv
        obtain ⟨rfl, rfl, rfl⟩ := hv
        rw [hwf0 hlt hca] at hwk
        simp only [List.map_nil, List.append_nil] at hwk
        conv => arg 4; cbv
        refine roundG_out hω ?_ (fun h => by cases h) ?_
        · conv => arg 4; cbv
          refine meanE_fin hω (_, 0, 0) (by (conv => lhs; cbv); all_goals rfl) ⟨rfl, rfl⟩ ?_ (fun e he => by cases he) ?_ ?_
          · rw [hr, ← hwk, List.take_of_length_le (by omega)]
          · simp
          · simp
        · first | (simp [bIf_rec, pIf_rec, bNot_rec, hb, hi, hp, Int.ofNat_eq_natCast, oConds, strip, St.ev]; done) | (simp only [bIf_rec, pIf_rec, bNot_rec, hb, hi, hp, Int.ofNat_eq_natCast]; done) | (simp [bIf_rec, pIf_rec, bNot_rec, hb, hi, hp, Int.ofNat_eq_natCast, oConds, strip, St.ev]; (repeat' apply And.intro) <;> first | exact Int.NonNeg.mk _ | omega)
      | some ci =>
        obtain ⟨d, hd⟩ := codeAt_get hca
        rw [codeR_some hd hca] at hv
        simp only [Prod.mk.injEq] at hv
        obtain ⟨rfl, hv2, rfl⟩ := hv
        clear hv2
        obtain ⟨cii, hcii⟩ : ∃ cii : Int, cii = ci := ⟨_, rfl⟩
        rw [← hcii]
        conv => arg 4; cbv
        cases U with
        | none =>
          have hcall := hup8 (.mem 5 [[.c (.sl rl), .c (.sl rm), .c (.sl rc), .c (.sl ro), bV lz]]) (.mem 2 [[iV 0, iV 0]]) (.mem 2 [[iV 0, iV 0]]) (.mem 33 [[wV c0, wV c1, wV c2, wV c3, wV c4, wV c5, wV c6, wV c7, wV v0, wV v1, wV v2, wV v3, wV v4, wV v5, wV v6, wV v7, wV v8, wV v9, wV u0, wV u1, wV u2, wV u3, wV u4, wV u5, iV flags, wV pc, wV tp, bV user, bV stopped, wV handler, iV cause, wV saved, .c (.sl rb)]]) (.mem 2 [[.any, .any]]) (.grow 2 44 rows) (.mem 2 [[wV wp, wV 0]]) (by simp [Ent.und, undL, AV.und, iV, wV, bV]) (by simp [Ent.und, undL, AV.und, iV, wV, bV]) (by simp [Ent.und, undL, AV.und, iV, wV, bV]) (by simp [Ent.und, undL, AV.und, iV, wV, bV]) (by simp [Ent.und, undL, AV.und, iV, wV, bV]) (by simp [Ent.und, undL, AV.und, iV, wV, bV]) (by simp [Ent.und, undL, AV.und, iV, wV, bV])
          simp only [upR, upW] at hcall
          rw [hEw] at hcall
          refine meanE_callD hω [] [.mem 5 [[.c (.sl rl), .c (.sl rm), .c (.sl rc), .c (.sl ro), bV lz]], .mem 2 [[iV 0, iV 0]], .mem 2 [[iV 0, iV 0]], .mem 33 [[wV c0, wV c1, wV c2, wV c3, wV c4, wV c5, wV c6, wV c7, wV v0, wV v1, wV v2, wV v3, wV v4, wV v5, wV v6, wV v7, wV v8, wV v9, wV u0, wV u1, wV u2, wV u3, wV u4, wV u5, iV flags, wV pc, wV tp, bV user, bV stopped, wV handler, iV cause, wV saved, .c (.sl rb)]], .mem 17 [[.c (.sl rl), .c (.sl rm), .c (.sl rc), .c (.sl ro), bV lz, iV k, wV r0, wV r1, wV r2, wV r3, wV r4, wV r5, wV r6, wV r7, iV kn, wV wp, iV wlk]], .mem 2 [[.any, .any]], .grow 2 44 rows, .mem 2 [[wV wp, wV 0]]] hcall rfl rfl ?_ ?_
          · first | (simp [bIf_rec, pIf_rec, bNot_rec, hb, hi, hp, Int.ofNat_eq_natCast, oConds, strip, St.ev]; done) | (simp only [bIf_rec, pIf_rec, bNot_rec, hb, hi, hp, Int.ofNat_eq_natCast]; done) | (simp [bIf_rec, pIf_rec, bNot_rec, hb, hi, hp, Int.ofNat_eq_natCast, oConds, strip, St.ev]; (repeat' apply And.intro) <;> first | exact Int.NonNeg.mk _ | omega)
          rw [hwf1 ci hlt hca rfl] at hwk
          conv => arg 4; cbv
          refine roundG_out hω ?_ (fun h => by cases h) ?_
          · conv => arg 4; cbv
            refine meanE_fin hω (_, 0, 0) (by (conv => lhs; cbv); all_goals rfl) ⟨rfl, rfl⟩ ?_ (fun e he => by cases he) ?_ ?_
            · rw [hr, hn, hr, ← hwk, List.take_of_length_le (by simp; omega)]; rfl
            · simp
            · simp
          · simp only [hp]
            repeat' apply And.intro
            all_goals first
              | trivial
              | omega
              | (simp only [List.length_singleton]; omega)
              | (intro i row hrow
                 cases i with
                 | zero => simp at hrow; subst hrow; exact ⟨rfl, rfl⟩
                 | succ i => simp at hrow)
        | some x =>
          obtain ⟨bse, w2⟩ := x
          obtain ⟨hbu, hw2⟩ := huo (bse, w2) rfl
          have hcall := hup8 (.mem 5 [[.c (.sl rl), .c (.sl rm), .c (.sl rc), .c (.sl ro), bV lz]]) (.mem 2 [[iV 0, iV 0]]) (.mem 2 [[iV 0, iV 0]]) (.mem 33 [[wV c0, wV c1, wV c2, wV c3, wV c4, wV c5, wV c6, wV c7, wV v0, wV v1, wV v2, wV v3, wV v4, wV v5, wV v6, wV v7, wV v8, wV v9, wV u0, wV u1, wV u2, wV u3, wV u4, wV u5, iV flags, wV pc, wV tp, bV user, bV stopped, wV handler, iV cause, wV saved, .c (.sl rb)]]) (.mem 2 [[.any, .any]]) (.grow 2 44 rows) (.mem 2 [[wV wp, wV 0]]) (by simp [Ent.und, undL, AV.und, iV, wV, bV]) (by simp [Ent.und, undL, AV.und, iV, wV, bV]) (by simp [Ent.und, undL, AV.und, iV, wV, bV]) (by simp [Ent.und, undL, AV.und, iV, wV, bV]) (by simp [Ent.und, undL, AV.und, iV, wV, bV]) (by simp [Ent.und, undL, AV.und, iV, wV, bV]) (by simp [Ent.und, undL, AV.und, iV, wV, bV])
          simp only [upR, upW] at hcall
          rw [hEw] at hcall
          refine meanE_callD hω [] [.mem 5 [[.c (.sl rl), .c (.sl rm), .c (.sl rc), .c (.sl ro), bV lz]], .mem 2 [[iV 0, iV 0]], .mem 2 [[iV 0, iV 0]], .mem 33 [[wV c0, wV c1, wV c2, wV c3, wV c4, wV c5, wV c6, wV c7, wV v0, wV v1, wV v2, wV v3, wV v4, wV v5, wV v6, wV v7, wV v8, wV v9, wV u0, wV u1, wV u2, wV u3, wV u4, wV u5, iV flags, wV pc, wV tp, bV user, bV stopped, wV handler, iV cause, wV saved, .c (.sl rb)]], WE w2, .mem 2 [[.any, .any]], .grow 2 44 rows, .mem 2 [[wV wp, wV 0]]] hcall rfl rfl ?_ ?_
          · first | (simp [bIf_rec, pIf_rec, bNot_rec, hb, hi, hp, Int.ofNat_eq_natCast, oConds, strip, St.ev]; done) | (simp only [bIf_rec, pIf_rec, bNot_rec, hb, hi, hp, Int.ofNat_eq_natCast]; done) | (simp [bIf_rec, pIf_rec, bNot_rec, hb, hi, hp, Int.ofNat_eq_natCast, oConds, strip, St.ev]; (repeat' apply And.intro) <;> first | exact Int.NonNeg.mk _ | omega)
          rw [hwf2 ci (bse, w2) hlt hca rfl] at hwk
          simp only at hbu hw2 hwk
          conv => arg 4; cbv
          refine roundG_next (n + 2, app rows wp bse, w2) ?_ ?_ ?_ (fun e he => by cases he) ?_ ?_
          · (conv => lhs; cbv); (conv => rhs; cbv)
            rw [hn, hr, ← happ]; rfl
          · rw [show 40 - (n + 1) - 1 = 40 - (n + 2) by omega] at hwk
            exact ⟨by simp only; omega, by simp [happ, hrl2], by simpa [happ, frE, wC] using hwk, hw2⟩
          · simp only; omega
          · simp [FgtOk, undT, undEs, undEs.undRows, undL, AV.und, blank, blankL, blankRow]
            rw [hWE]
            exact wkE_und _ _ _ _ _ _ _ _ _ (by simp [undEs, undEs.undRows, undL, AV.und])
          · simp only [hp]
            repeat' apply And.intro
            all_goals first
              | trivial
              | omega
              | (simp only [List.length_singleton]; omega)
              | (intro i row hrow
                 cases i with
                 | zero => simp at hrow; subst hrow; exact ⟨rfl, rfl⟩
                 | succ i => simp at hrow)
    · rename_i h
      simp only [h]
      simp only [bIf_rec, pIf_rec, bNot_rec, hb, hi, hp, Int.ofNat_eq_natCast] at h
      have hn40' : n + 1 = 40 := by simp at h; omega
      have hWF : WF = [] := by rw [← hwlk, hn40']; rfl
      rw [hWF] at hwk
      simp only [List.map_nil, List.append_nil] at hwk
      conv => arg 4; cbv
      refine roundG_out hω ?_ (fun h => by cases h) ?_
      · conv => arg 4; cbv
        refine meanE_fin hω (_, 0, 0) (by (conv => lhs; cbv); all_goals rfl) ⟨rfl, rfl⟩ ?_ (fun e he => by cases he) ?_ ?_
        · rw [hr, ← hwk, List.take_of_length_le (by omega)]
        · simp
        · simp
      · first | (simp [bIf_rec, pIf_rec, bNot_rec, hb, hi, hp, Int.ofNat_eq_natCast, oConds, strip, St.ev]; done) | (simp only [bIf_rec, pIf_rec, bNot_rec, hb, hi, hp, Int.ofNat_eq_natCast]; done) | (simp [bIf_rec, pIf_rec, bNot_rec, hb, hi, hp, Int.ofNat_eq_natCast, oConds, strip, St.ev]; (repeat' apply And.intro) <;> first | exact Int.NonNeg.mk _ | omega)

end Go.Den.Z
