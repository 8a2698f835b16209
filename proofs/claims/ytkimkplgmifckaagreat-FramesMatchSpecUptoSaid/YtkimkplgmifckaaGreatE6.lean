/-
  Part of the proof that FramesMatchSpec returns true: the contract of the walk of the reference.
  No condition.
-/
import Derived.Test.YtkimkplgmifckaaGreatE4
import Derived.Test.YtkimkplgmifckaaGreatE5
set_option linter.unusedSimpArgs false
set_option linter.unusedVariables false
set_option maxRecDepth 20000
set_option maxHeartbeats 8000000
namespace Go.Den.Z
open Go.Proofs
theorem refWalk_ok (p : Prc) (hpw : p.Wf) (hpo : p.Ok) (rl rm rc ro : List (List CV)) (hrl : rl = p.loaded.map Ldd.e) (hrm : rm = p.mem.map Pag.e) (hrc : rc = p.cores.map Cor.e) (lz : Bool) (k : Int) (c : Cor) (hk0 : 0 ≤ k) (hk : p.cores[k.toNat]? = some c) :
    PCalls P 12 [agg [.sl rl, .sl rm, .sl rc, .sl ro, bC lz], iV k] [] (.c (.sl ((walkOf p c).map frE))) := by
  suffices h : ∃ v : List (List CV), v = (walkOf p c).map frE ∧ PCalls P 12 [agg [.sl rl, .sl rm, .sl rc, .sl ro, bC lz], iV k] [] (.c (.sl v)) by
    obtain ⟨v, rfl, h⟩ := h
    exact h
  have hrcl : rc.length = p.cores.length := by rw [hrc]; simp
  have hrll : rl.length = p.loaded.length := by rw [hrl]; simp
  have hkw := hpw.cores.2 _ _ hk
  have hrk : rc[k.toNat]? = some c.e := by rw [hrc]; simp [hk]
  have hcl : c.e.length = 33 := by simp [Cor.e, hkw.regs.1, hkw.vecs.1]
  have hseen := fun a ha => seen_ok p.mem p.cores rl rm rc ro hrm hrc hpo.mem hpw.mem hpw.cores hpo.cores lz k c hk0 hk a ha
  have hmd : ∀ (k : Nat) q, p.mem[k]? = some q → LW u8r q.data := fun k q h => (hpw.mem.2 k q h).data
  have h8 := hkw.regs.1
  have h16 := hkw.vecs.1
  have hpc := hkw.pc
  have hW0 : WkOk ⟨c.regs, true, c.pc, c.pc⟩ := ⟨hkw.regs, hpc, by unfold u32r at hpc; simp only; omega⟩
  have hwalk0 : walkOf p c = walkF p c.buf 40 ⟨c.regs, true, c.pc, c.pc⟩ := rfl
  generalize walkOf p c = RES at hwalk0 ⊢
  clear hk hkw
  obtain ⟨regs, vecs, flags, pc, tp, user, stopped, handler, cause, saved, buf⟩ := c
  simp only at h8 h16 hpc hseen hW0 hwalk0
  obtain ⟨c0, c1, c2, c3, c4, c5, c6, c7, rfl⟩ := len8 h8
  obtain ⟨v0, v1, v2, v3, v4, v5, v6, v7, v8, v9, u0, u1, u2, u3, u4, u5, rfl⟩ := len16 h16
  simp only [Cor.e, List.map_cons, List.map_nil, List.cons_append, List.nil_append] at hrk hcl
  generalize buf.map Pnd.e = rb at hrk hcl
  obtain ⟨oi, ob, op, os, on, or_, om, hω⟩ := shields
  have hi : ∀ f, oi f = f () := hω.i
  have hb : ∀ f, ob f = f () := hω.b
  have hp : ∀ f, op f = f () := hω.p
  have hs : ∀ f, os f = f () := hω.s
  have hr : ∀ f, or_ f = f () := hω.r
  have hn : ∀ f, on f = f () := hω.n
  have hpr : True := trivial
  obtain ⟨app, happ⟩ : ∃ app : List (List CV) → Int → Int → List (List CV), ∀ l a b, app l a b = l ++ [[.sc (.int .u32 a), .sc (.int .u32 b)]] := ⟨_, fun _ _ _ => rfl⟩
  obtain ⟨E1, hE1d⟩ : ∃ E1 : Ent, E1 = .mem 33 [[wV c0, wV c1, wV c2, wV c3, wV c4, wV c5, wV c6, wV c7, wV v0, wV v1, wV v2, wV v3, wV v4, wV v5, wV v6, wV v7, wV v8, wV v9, wV u0, wV u1, wV u2, wV u3, wV u4, wV u5, iV flags, wV pc, wV tp, bV user, bV stopped, wV handler, iV cause, wV saved, .c (.sl rb)]] := ⟨_, rfl⟩
  have hE1 : ∀ n r, undEs n r → undEs n (E1 :: r) := fun n r h => by
    rw [hE1d]
    exact ⟨by simp [undEs.undRows, undL, AV.und, iV, wV, bV], h⟩
  have epc0 : (oi fun _ => IntKind.i64.wrap pc) = pc := by rw [hi, wrap_i64 (by unfold u32r at hpc; omega)]
  refine PCalls.runE hmix hω q_refWalk ?_
  unfold c_refWalk
  obtain ⟨B, hB0⟩ : ∃ B, B = c_rwB := ⟨_, rfl⟩
  rw [← hB0]
  conv => arg 4; cbv
  refine meanE_elem hω _ hk0 hrk hcl ?_ ?_
  · first | (simp [bIf_rec, pIf_rec, bNot_rec, hb, hi, hp, Int.ofNat_eq_natCast, oConds, strip, St.ev, hpr]; done) | (simp only [bIf_rec, pIf_rec, bNot_rec, hb, hi, hp, Int.ofNat_eq_natCast]; done) | (simp [bIf_rec, pIf_rec, bNot_rec, hb, hi, hp, Int.ofNat_eq_natCast, oConds, strip, St.ev, hpr]; (repeat' apply And.intro) <;> first | exact Int.NonNeg.mk _ | omega)
  conv => arg 4; cbv
  simp only [epc0]
  refine meanE_loopG (F := fun v => v = RES.map frE) hω [1, 2, 6, 7, 8, 9, 10] 8 (rwHd rl rm rc ro lz E1 k) (rwInv p buf (RES.map frE)) rwMu (0, [], ⟨[c0, c1, c2, c3, c4, c5, c6, c7], true, pc, pc⟩) ?_ ⟨by simp, rfl, by rw [hwalk0]; rfl, hW0⟩ (fun e he => by cases he) ?_ ?_ ?_
  · rw [hE1d]
    (conv => lhs; cbv); (conv => rhs; cbv)
  · simp [FgtOk, undT, undEs, undEs.undRows, undL, AV.und]
  · first | (simp [bIf_rec, pIf_rec, bNot_rec, hb, hi, hp, Int.ofNat_eq_natCast, oConds, strip, St.ev, hpr]; done) | (simp only [bIf_rec, pIf_rec, bNot_rec, hb, hi, hp, Int.ofNat_eq_natCast]; done) | (simp [bIf_rec, pIf_rec, bNot_rec, hb, hi, hp, Int.ofNat_eq_natCast, oConds, strip, St.ev, hpr]; (repeat' apply And.intro) <;> first | exact Int.NonNeg.mk _ | omega)
  rintro ⟨n, rows, w⟩ ⟨hn40, hrl2, hwk, hwo⟩
  simp only at hn40 hrl2 hwk hwo
  have huo := fun x (hx : upOf p buf w = some x) => upOf_ok hmd hwo hx
  have hwf0 := fun (hn : 0 < 40 - n) (h : codeAt p.loaded w.pc = none) => walkF_none (p := p) (buf := buf) (n := 40 - n) (w := w) hn h
  have hwf1 := fun i (hn : 0 < 40 - n) (h : codeAt p.loaded w.pc = some i) (hu : upOf p buf w = none) => walkF_stop (p := p) (buf := buf) (n := 40 - n) (w := w) hn h hu
  have hwf2 := fun i x (hn : 0 < 40 - n) (h : codeAt p.loaded w.pc = some i) (hu : upOf p buf w = some x) => walkF_next (p := p) (buf := buf) (n := 40 - n) (w := w) hn h hu
  have hnone := upOf_code (p := p) (buf := buf) (w := w)
  have hrow := fun i d => upOf_row (p := p) (buf := buf) (w := w) (i := i) (d := d)
  have hwregs := hwo.regs.1
  have hwpc := hwo.pc
  have hwlk := hwo.look
  generalize hU : upOf p buf w = U at huo hwf1 hwf2 hnone hrow
  generalize hwle : walkF p buf (40 - n) w = WF at hwk hwf0 hwf1 hwf2
  obtain ⟨wr, wa, wp, wlk⟩ := w
  simp only at hwregs hwpc hwlk hwf0 hwf1 hwf2 hnone hrow
  obtain ⟨r0, r1, r2, r3, r4, r5, r6, r7, rfl⟩ := len8 hwregs
  have epc : (oi fun _ => IntKind.i64.wrap wp) = wp := by rw [hi, wrap_i64 (by unfold u32r at hwpc; omega)]
  have hcd0 := codeOf_ok p.loaded rl rm rc ro hrl hpw.loaded.1 hpo.loaded hpw.loaded lz wp (by unfold u32r at hwpc; omega)
  have hcd1 := codeOf_ok p.loaded rl rm rc ro hrl hpw.loaded.1 hpo.loaded hpw.loaded lz wlk (by omega)
  clear hE1d
  cases n with
  | zero =>
    simp only [rwHd]
    simp only [List.map_cons, List.map_nil]
    have hB := fun hlt hS hN (qr qa qs zo : Int) hqr hqs hneg hpos => rwB0 p hpw rl rm rc ro lz k buf (RES.map frE) E1 hE1 hseen app happ r0 r1 r2 r3 r4 r5 r6 r7 wa wp wlk U rows (List.length_eq_zero_iff.1 hrl2) hlt hS hN oi ob op os on or_ om hω qr qa qs zo hqr hqs hneg hpos
    conv => arg 4; cbv
    split
    · rename_i h
      simp only [h]
      simp only [bIf_rec, pIf_rec, bNot_rec, hb, hi, hp, Int.ofNat_eq_natCast] at h
      have hlt : 0 < 40 - 0 := by omega
      conv => arg 4; cbv
      simp only [epc]
      cases hca : codeAt p.loaded wp with
      | none =>
        rw [codeI_none hca] at hcd0
        rw [hwf0 hlt hca] at hwk
        simp only [List.map_nil, List.append_nil] at hwk
        refine meanE_callG hω (hcd0.any (by simp [undL, AV.und, agg, iV]) (by simp [AV.und, iV]) _) ?_ ?_
        · first | (simp [bIf_rec, pIf_rec, bNot_rec, hb, hi, hp, Int.ofNat_eq_natCast, oConds, strip, St.ev, hpr]; done) | (simp only [bIf_rec, pIf_rec, bNot_rec, hb, hi, hp, Int.ofNat_eq_natCast]; done) | (simp [bIf_rec, pIf_rec, bNot_rec, hb, hi, hp, Int.ofNat_eq_natCast, oConds, strip, St.ev, hpr]; (repeat' apply And.intro) <;> first | exact Int.NonNeg.mk _ | omega)
        conv => arg 4; cbv
        split
        · rename_i h2
          exfalso
          simp only [bIf_rec, pIf_rec, bNot_rec, hb, hi, hp, Int.ofNat_eq_natCast, condF] at h2
          simp at h2
        · rename_i h2
          conv => arg 4; cbv
          refine roundG_out hω ?_ (fun h => by cases h) ?_
          · conv => arg 4; cbv
            refine meanE_fin hω _ (by (conv => lhs; cbv); all_goals rfl) ⟨rfl, rfl⟩ ?_ (fun e he => by cases he) ?_ ?_
            · rw [← hwk, List.length_eq_zero_iff.1 hrl2]
            · first | trivial | (simp [bIf_rec, pIf_rec, bNot_rec, hb, hi, hp, Int.ofNat_eq_natCast]; done)
            · simp
          · first | (simp [bIf_rec, pIf_rec, bNot_rec, hb, hi, hp, Int.ofNat_eq_natCast, oConds, strip, St.ev, hpr]; done) | (simp only [bIf_rec, pIf_rec, bNot_rec, hb, hi, hp, Int.ofNat_eq_natCast]; done) | (simp [bIf_rec, pIf_rec, bNot_rec, hb, hi, hp, Int.ofNat_eq_natCast, oConds, strip, St.ev, hpr]; (repeat' apply And.intro) <;> first | exact Int.NonNeg.mk _ | omega)
      | some ci =>
        rw [codeI_some hca] at hcd0
        obtain ⟨cii, hcii⟩ : ∃ cii : Int, cii = ci := ⟨_, rfl⟩
        rw [← hcii] at hcd0
        have hS : U = none → app rows wp 0 = RES.map frE := fun hu => by
          rw [← hwk, hwf1 ci hlt hca hu, happ]
          rfl
        have hN : ∀ x, U = some x → rwInv p buf (RES.map frE) (0 + 1, app rows wp x.1, x.2) := fun x hu => by
          rw [hwf2 ci x hlt hca hu] at hwk
          obtain ⟨hxu, hxw⟩ := huo x hu
          refine ⟨by simp only; omega, by simp [happ, hrl2], ?_, hxw⟩
          rw [show 40 - 0 - 1 = 40 - (0 + 1) by omega] at hwk
          simpa [happ, frE, wC] using hwk
        have hB := hB (by omega) hS hN
        refine meanE_callG hω (hcd0.any (by simp [undL, AV.und, agg, iV]) (by simp [AV.und, iV]) _) ?_ ?_
        · first | (simp [bIf_rec, pIf_rec, bNot_rec, hb, hi, hp, Int.ofNat_eq_natCast, oConds, strip, St.ev, hpr]; done) | (simp only [bIf_rec, pIf_rec, bNot_rec, hb, hi, hp, Int.ofNat_eq_natCast]; done) | (simp [bIf_rec, pIf_rec, bNot_rec, hb, hi, hp, Int.ofNat_eq_natCast, oConds, strip, St.ev, hpr]; (repeat' apply And.intro) <;> first | exact Int.NonNeg.mk _ | omega)
        conv => arg 4; cbv
        split
        · rename_i h2
          simp only [h2]
          conv => arg 4; cbv
          cases hcl2 : codeAt p.loaded wlk with
          | none =>
            have hUn := hnone hcl2
            rw [codeI_none hcl2] at hcd1
            refine meanE_call hω (hcd1.any (by simp [undL, AV.und, agg, iV]) (by simp [AV.und, iV]) _) ?_ ?_
            · first | (simp [bIf_rec, pIf_rec, bNot_rec, hb, hi, hp, Int.ofNat_eq_natCast, oConds, strip, St.ev, hpr]; done) | (simp only [bIf_rec, pIf_rec, bNot_rec, hb, hi, hp, Int.ofNat_eq_natCast]; done) | (simp [bIf_rec, pIf_rec, bNot_rec, hb, hi, hp, Int.ofNat_eq_natCast, oConds, strip, St.ev, hpr]; (repeat' apply And.intro) <;> first | exact Int.NonNeg.mk _ | omega)
            obtain ⟨N, hNN⟩ : ∃ N : Nat, N = 99979 := ⟨_, rfl⟩
            rw [show (100000 : Nat) = Nat.succ (Nat.succ (Nat.succ (Nat.succ (Nat.succ (Nat.succ (Nat.succ (Nat.succ (Nat.succ (Nat.succ (Nat.succ (Nat.succ (Nat.succ (Nat.succ (Nat.succ (Nat.succ (Nat.succ (Nat.succ (Nat.succ (Nat.succ (Nat.succ (N))))))))))))))))))))) from by rw [hNN]]
            conv => arg 4; cbv
            split
            · rename_i h3
              exfalso
              simp only [bIf_rec, pIf_rec, bNot_rec, hb, hi, hp, Int.ofNat_eq_natCast] at h3
              simp at h3
            · rename_i h3
              simp only [h3]
              conv => arg 4; cbv
              rw [hB0, ← runc.eq_def ⟨oi, ob, op, os, on, or_, om⟩ N]
              refine meanE_le (n := 90000) (m := N) (by omega) (hB (-1) 0 0 0 (by omega) (by omega) (fun _ => hUn) (fun h => by omega) _ _ _ _ _ _ _ _ _ _ _ _ _ _ _ _ _ _ _ _ _ _ _ _ _ _ _ _ _ _ _ _ _ _ _ _ _ _ _ _ _ _ _ _ _ _ _ _ _ _ _ _ _ _ _ _ _ _ _ _ _ _ _ _ _ _ _ _ _ _ _ _ _ _ _ _ _ _ _ _ _ _ _ _ _ _ _ _ _ _ _ _ _ _ _ _ _ _ _ _ _ _ _ _ _ _ _ _ _ _ _ _ _ _ _ _ _ _ _ _ _ _ _ _ _ _ _ _ _ _ _ _ _ _ _ _ _ _ _ _ _ _ _ _ _ _ ?_)
              first | (simp [bIf_rec, pIf_rec, bNot_rec, hb, hi, hp, Int.ofNat_eq_natCast, oConds, strip, St.ev, hpr]; done) | (simp only [bIf_rec, pIf_rec, bNot_rec, hb, hi, hp, Int.ofNat_eq_natCast]; done) | (simp [bIf_rec, pIf_rec, bNot_rec, hb, hi, hp, Int.ofNat_eq_natCast, oConds, strip, St.ev, hpr]; (repeat' apply And.intro) <;> first | exact Int.NonNeg.mk _ | omega)
          | some ci2 =>
            obtain ⟨d, hd⟩ := codeAt_get hcl2
            rw [codeI_some hcl2] at hcd1
            obtain ⟨cj, hcj⟩ : ∃ cj : Int, cj = ci2 := ⟨_, rfl⟩
            rw [← hcj] at hcd1
            have hUr := hrow ci2 d hcl2 hd
            have hdw := hpw.loaded.2 ci2 d hd
            have hdo := hpo.loaded ci2 d hd
            have hbi := hdo.bias
            have hdx : p.loaded[cj.toNat]? = some d := by rw [hcj]; exact hd
            have hdlt := (List.getElem?_eq_some_iff.1 hd).1
            obtain ⟨off, hoff⟩ : ∃ off : Int, off = wlk - d.bias := ⟨_, rfl⟩
            have huw := unwindOf_ok d.img.unw d.img.r.unw rfl hdw.img.unw.1 off
            have hqo : ∀ r, rowAt d.img.unw off = some r → r.Ok := fun r h => rowAt_ok hdo.img.unw h
            rw [← hoff] at hUr
            have eoff : (oi fun _ => IntKind.i64.wrap (wlk - d.bias)) = off := by rw [hi, hoff, wrap_i64 (by omega)]
            refine meanE_call hω (hcd1.any (by simp [undL, AV.und, agg, iV]) (by simp [AV.und, iV]) _) ?_ ?_
            · first | (simp [bIf_rec, pIf_rec, bNot_rec, hb, hi, hp, Int.ofNat_eq_natCast, oConds, strip, St.ev, hpr]; done) | (simp only [bIf_rec, pIf_rec, bNot_rec, hb, hi, hp, Int.ofNat_eq_natCast]; done) | (simp [bIf_rec, pIf_rec, bNot_rec, hb, hi, hp, Int.ofNat_eq_natCast, oConds, strip, St.ev, hpr]; (repeat' apply And.intro) <;> first | exact Int.NonNeg.mk _ | omega)
            conv => arg 4; cbv
            split
            · rename_i h3
              simp only [h3]
              obtain ⟨im, lb, lt, lu⟩ := d
              have hye : (Ldd.e ⟨im, lb, lt, lu⟩) = im.r.e ++ [iC lb, iC lt, iC lu] := rfl
              simp only at huw hUr hqo eoff
              generalize im.r = y at huw hye
              obtain ⟨name, shared, segs, entry, exps, imps, fixs, thr, thrSize, inits, finis, needs, id, lines, unw, files, types, vars, places⟩ := y
              simp only at huw
              conv => arg 4; cbv
              refine elemM hω hrl ?_ ?_ (fun _ => rfl) ?_ fun q3 hq3 => ?_
              · omega
              · omega
              · first | (simp [bIf_rec, pIf_rec, bNot_rec, hb, hi, hp, Int.ofNat_eq_natCast, oConds, strip, St.ev, hpr]; done) | (simp only [bIf_rec, pIf_rec, bNot_rec, hb, hi, hp, Int.ofNat_eq_natCast]; done) | (simp [bIf_rec, pIf_rec, bNot_rec, hb, hi, hp, Int.ofNat_eq_natCast, oConds, strip, St.ev, hpr]; (repeat' apply And.intro) <;> first | exact Int.NonNeg.mk _ | omega)
              obtain rfl := Option.some.inj (hdx.symm.trans hq3)
              simp only [hye]
              conv => arg 4; cbv
              refine elemM hω hrl ?_ ?_ (fun _ => rfl) ?_ fun q3 hq3 => ?_
              · omega
              · omega
              · first | (simp [bIf_rec, pIf_rec, bNot_rec, hb, hi, hp, Int.ofNat_eq_natCast, oConds, strip, St.ev, hpr]; done) | (simp only [bIf_rec, pIf_rec, bNot_rec, hb, hi, hp, Int.ofNat_eq_natCast]; done) | (simp [bIf_rec, pIf_rec, bNot_rec, hb, hi, hp, Int.ofNat_eq_natCast, oConds, strip, St.ev, hpr]; (repeat' apply And.intro) <;> first | exact Int.NonNeg.mk _ | omega)
              obtain rfl := Option.some.inj (hdx.symm.trans hq3)
              simp only [hye]
              conv => arg 4; cbv
              simp only [eoff]
              clear eoff hoff
              cases hra : rowAt im.unw off with
              | none =>
                rw [hra] at huw hUr
                simp only [Option.bind_none] at hUr
                simp only [unwF, UnwR.e] at huw
                refine meanE_callQ hω (huw.any (by simp [undL, AV.und, iV]) (by simp [AV.und, agg, undL]) _) ?_ ?_
                · first | (simp [bIf_rec, pIf_rec, bNot_rec, hb, hi, hp, Int.ofNat_eq_natCast, oConds, strip, St.ev, hpr]; done) | (simp only [bIf_rec, pIf_rec, bNot_rec, hb, hi, hp, Int.ofNat_eq_natCast]; done) | (simp [bIf_rec, pIf_rec, bNot_rec, hb, hi, hp, Int.ofNat_eq_natCast, oConds, strip, St.ev, hpr]; (repeat' apply And.intro) <;> first | exact Int.NonNeg.mk _ | omega)
                obtain ⟨N, hNN⟩ : ∃ N : Nat, N = 99996 := ⟨_, rfl⟩
                rw [show (100000 : Nat) = Nat.succ (Nat.succ (Nat.succ (Nat.succ (N)))) from by rw [hNN]]
                conv => arg 4; cbv
                rw [hB0, ← runc.eq_def ⟨oi, ob, op, os, on, or_, om⟩ N]
                refine meanE_le (n := 90000) (m := N) (by omega) (hB (-1) 0 0 0 (by omega) (by omega) (fun _ => hUr) (fun h => by omega) _ _ _ _ _ _ _ _ _ _ _ _ _ _ _ _ _ _ _ _ _ _ _ _ _ _ _ _ _ _ _ _ _ _ _ _ _ _ _ _ _ _ _ _ _ _ _ _ _ _ _ _ _ _ _ _ _ _ _ _ _ _ _ _ _ _ _ _ _ _ _ _ _ _ _ _ _ _ _ _ _ _ _ _ _ _ _ _ _ _ _ _ _ _ _ _ _ _ _ _ _ _ _ _ _ _ _ _ _ _ _ _ _ _ _ _ _ _ _ _ _ _ _ _ _ _ _ _ _ _ _ _ _ _ _ _ _ _ _ _ _ _ _ _ _ _ ?_)
                first | (simp [bIf_rec, pIf_rec, bNot_rec, hb, hi, hp, Int.ofNat_eq_natCast, oConds, strip, St.ev, hpr]; done) | (simp only [bIf_rec, pIf_rec, bNot_rec, hb, hi, hp, Int.ofNat_eq_natCast]; done) | (simp [bIf_rec, pIf_rec, bNot_rec, hb, hi, hp, Int.ofNat_eq_natCast, oConds, strip, St.ev, hpr]; (repeat' apply And.intro) <;> first | exact Int.NonNeg.mk _ | omega)
              | some r =>
                rw [hra] at huw hUr
                have hro := hqo r hra
                have hreg := hro.reg
                have hsv := hro.saved
                simp only [Option.bind_some] at hUr
                obtain ⟨qo, qr, qa, qs⟩ := r
                simp only at hreg hsv
                simp only [unwF, UnwR.e] at huw
                have hUneg : qr < 0 → U = none := fun h => by rw [hUr]; unfold upRow; rw [if_pos (.inl h)]
                have hUpos : 0 ≤ qr → U = upRow p buf ⟨[r0, r1, r2, r3, r4, r5, r6, r7], wa, wp, wlk⟩ ⟨0, qr, qa, qs⟩ := fun _ => hUr
                refine meanE_callQ hω (huw.any (by simp [undL, AV.und, iV]) (by simp [AV.und, agg, undL]) _) ?_ ?_
                · first | (simp [bIf_rec, pIf_rec, bNot_rec, hb, hi, hp, Int.ofNat_eq_natCast, oConds, strip, St.ev, hpr]; done) | (simp only [bIf_rec, pIf_rec, bNot_rec, hb, hi, hp, Int.ofNat_eq_natCast]; done) | (simp [bIf_rec, pIf_rec, bNot_rec, hb, hi, hp, Int.ofNat_eq_natCast, oConds, strip, St.ev, hpr]; (repeat' apply And.intro) <;> first | exact Int.NonNeg.mk _ | omega)
                obtain ⟨N, hNN⟩ : ∃ N : Nat, N = 99996 := ⟨_, rfl⟩
                rw [show (100000 : Nat) = Nat.succ (Nat.succ (Nat.succ (Nat.succ (N)))) from by rw [hNN]]
                conv => arg 4; cbv
                rw [hB0, ← runc.eq_def ⟨oi, ob, op, os, on, or_, om⟩ N]
                refine meanE_le (n := 90000) (m := N) (by omega) (hB qr qa qs 0 hreg hsv hUneg hUpos _ _ _ _ _ _ _ _ _ _ _ _ _ _ _ _ _ _ _ _ _ _ _ _ _ _ _ _ _ _ _ _ _ _ _ _ _ _ _ _ _ _ _ _ _ _ _ _ _ _ _ _ _ _ _ _ _ _ _ _ _ _ _ _ _ _ _ _ _ _ _ _ _ _ _ _ _ _ _ _ _ _ _ _ _ _ _ _ _ _ _ _ _ _ _ _ _ _ _ _ _ _ _ _ _ _ _ _ _ _ _ _ _ _ _ _ _ _ _ _ _ _ _ _ _ _ _ _ _ _ _ _ _ _ _ _ _ _ _ _ _ _ _ _ _ _ ?_)
                first | (simp [bIf_rec, pIf_rec, bNot_rec, hb, hi, hp, Int.ofNat_eq_natCast, oConds, strip, St.ev, hpr]; done) | (simp only [bIf_rec, pIf_rec, bNot_rec, hb, hi, hp, Int.ofNat_eq_natCast]; done) | (simp [bIf_rec, pIf_rec, bNot_rec, hb, hi, hp, Int.ofNat_eq_natCast, oConds, strip, St.ev, hpr]; (repeat' apply And.intro) <;> first | exact Int.NonNeg.mk _ | omega)
            · rename_i h3
              exfalso
              simp only [bIf_rec, pIf_rec, bNot_rec, hb, hi, hp, Int.ofNat_eq_natCast] at h3
              simp at h3
              omega
        · rename_i h2
          exfalso
          simp only [bIf_rec, pIf_rec, bNot_rec, hb, hi, hp, Int.ofNat_eq_natCast, condF] at h2
          simp at h2
          omega
    · rename_i h
      simp only [h]
      simp only [bIf_rec, pIf_rec, bNot_rec, hb, hi, hp, Int.ofNat_eq_natCast] at h
      exact absurd h (by decide)
  | succ n =>
    simp only [rwHd]
    simp only [List.map_cons, List.map_nil]
    have hB := fun hlt hS hN (qr qa qs zo : Int) hqr hqs hneg hpos => rwB1 p hpw rl rm rc ro lz k buf (RES.map frE) E1 hE1 hseen app happ r0 r1 r2 r3 r4 r5 r6 r7 wa wp wlk U n rows hrl2 hlt hS hN oi ob op os on or_ om hω qr qa qs zo hqr hqs hneg hpos
    conv => arg 4; cbv
    split
    · rename_i h
      simp only [h]
      simp only [bIf_rec, pIf_rec, bNot_rec, hb, hi, hp, Int.ofNat_eq_natCast] at h
      have hlt : 0 < 40 - (n + 1) := by simp at h; omega
      conv => arg 4; cbv
      simp only [epc]
      cases hca : codeAt p.loaded wp with
      | none =>
        rw [codeI_none hca] at hcd0
        rw [hwf0 hlt hca] at hwk
        simp only [List.map_nil, List.append_nil] at hwk
        refine meanE_callG hω (hcd0.any (by simp [undL, AV.und, agg, iV]) (by simp [AV.und, iV]) _) ?_ ?_
        · first | (simp [bIf_rec, pIf_rec, bNot_rec, hb, hi, hp, Int.ofNat_eq_natCast, oConds, strip, St.ev, hpr]; done) | (simp only [bIf_rec, pIf_rec, bNot_rec, hb, hi, hp, Int.ofNat_eq_natCast]; done) | (simp [bIf_rec, pIf_rec, bNot_rec, hb, hi, hp, Int.ofNat_eq_natCast, oConds, strip, St.ev, hpr]; (repeat' apply And.intro) <;> first | exact Int.NonNeg.mk _ | omega)
        conv => arg 4; cbv
        split
        · rename_i h2
          exfalso
          simp only [bIf_rec, pIf_rec, bNot_rec, hb, hi, hp, Int.ofNat_eq_natCast, condF] at h2
          simp at h2
        · rename_i h2
          conv => arg 4; cbv
          refine roundG_out hω ?_ (fun h => by cases h) ?_
          · conv => arg 4; cbv
            refine meanE_fin hω _ (by (conv => lhs; cbv); all_goals rfl) ⟨rfl, rfl⟩ ?_ (fun e he => by cases he) ?_ ?_
            · rw [hr, ← hwk, List.take_of_length_le (by omega)]
            · first | trivial | (simp [bIf_rec, pIf_rec, bNot_rec, hb, hi, hp, Int.ofNat_eq_natCast]; done)
            · simp
          · first | (simp [bIf_rec, pIf_rec, bNot_rec, hb, hi, hp, Int.ofNat_eq_natCast, oConds, strip, St.ev, hpr]; done) | (simp only [bIf_rec, pIf_rec, bNot_rec, hb, hi, hp, Int.ofNat_eq_natCast]; done) | (simp [bIf_rec, pIf_rec, bNot_rec, hb, hi, hp, Int.ofNat_eq_natCast, oConds, strip, St.ev, hpr]; (repeat' apply And.intro) <;> first | exact Int.NonNeg.mk _ | omega)
      | some ci =>
        rw [codeI_some hca] at hcd0
        obtain ⟨cii, hcii⟩ : ∃ cii : Int, cii = ci := ⟨_, rfl⟩
        rw [← hcii] at hcd0
        have hS : U = none → app rows wp 0 = RES.map frE := fun hu => by
          rw [← hwk, hwf1 ci hlt hca hu, happ]
          rfl
        have hN : ∀ x, U = some x → rwInv p buf (RES.map frE) ((n + 1) + 1, app rows wp x.1, x.2) := fun x hu => by
          rw [hwf2 ci x hlt hca hu] at hwk
          obtain ⟨hxu, hxw⟩ := huo x hu
          refine ⟨by simp only; omega, by simp [happ, hrl2], ?_, hxw⟩
          rw [show 40 - (n + 1) - 1 = 40 - ((n + 1) + 1) by omega] at hwk
          simpa [happ, frE, wC] using hwk
        have hB := hB (by omega) hS hN
        refine meanE_callG hω (hcd0.any (by simp [undL, AV.und, agg, iV]) (by simp [AV.und, iV]) _) ?_ ?_
        · first | (simp [bIf_rec, pIf_rec, bNot_rec, hb, hi, hp, Int.ofNat_eq_natCast, oConds, strip, St.ev, hpr]; done) | (simp only [bIf_rec, pIf_rec, bNot_rec, hb, hi, hp, Int.ofNat_eq_natCast]; done) | (simp [bIf_rec, pIf_rec, bNot_rec, hb, hi, hp, Int.ofNat_eq_natCast, oConds, strip, St.ev, hpr]; (repeat' apply And.intro) <;> first | exact Int.NonNeg.mk _ | omega)
        conv => arg 4; cbv
        split
        · rename_i h2
          simp only [h2]
          conv => arg 4; cbv
          cases hcl2 : codeAt p.loaded wlk with
          | none =>
            have hUn := hnone hcl2
            rw [codeI_none hcl2] at hcd1
            refine meanE_call hω (hcd1.any (by simp [undL, AV.und, agg, iV]) (by simp [AV.und, iV]) _) ?_ ?_
            · first | (simp [bIf_rec, pIf_rec, bNot_rec, hb, hi, hp, Int.ofNat_eq_natCast, oConds, strip, St.ev, hpr]; done) | (simp only [bIf_rec, pIf_rec, bNot_rec, hb, hi, hp, Int.ofNat_eq_natCast]; done) | (simp [bIf_rec, pIf_rec, bNot_rec, hb, hi, hp, Int.ofNat_eq_natCast, oConds, strip, St.ev, hpr]; (repeat' apply And.intro) <;> first | exact Int.NonNeg.mk _ | omega)
            obtain ⟨N, hNN⟩ : ∃ N : Nat, N = 99979 := ⟨_, rfl⟩
            rw [show (100000 : Nat) = Nat.succ (Nat.succ (Nat.succ (Nat.succ (Nat.succ (Nat.succ (Nat.succ (Nat.succ (Nat.succ (Nat.succ (Nat.succ (Nat.succ (Nat.succ (Nat.succ (Nat.succ (Nat.succ (Nat.succ (Nat.succ (Nat.succ (Nat.succ (Nat.succ (N))))))))))))))))))))) from by rw [hNN]]
            conv => arg 4; cbv
            split
            · rename_i h3
              exfalso
              simp only [bIf_rec, pIf_rec, bNot_rec, hb, hi, hp, Int.ofNat_eq_natCast] at h3
              simp at h3
            · rename_i h3
              simp only [h3]
              conv => arg 4; cbv
              rw [hB0, ← runc.eq_def ⟨oi, ob, op, os, on, or_, om⟩ N]
              refine meanE_le (n := 90000) (m := N) (by omega) (hB (-1) 0 0 0 (by omega) (by omega) (fun _ => hUn) (fun h => by omega) _ _ _ _ _ _ _ _ _ _ _ _ _ _ _ _ _ _ _ _ _ _ _ _ _ _ _ _ _ _ _ _ _ _ _ _ _ _ _ _ _ _ _ _ _ _ _ _ _ _ _ _ _ _ _ _ _ _ _ _ _ _ _ _ _ _ _ _ _ _ _ _ _ _ _ _ _ _ _ _ _ _ _ _ _ _ _ _ _ _ _ _ _ _ _ _ _ _ _ _ _ _ _ _ _ _ _ _ _ _ _ _ _ _ _ _ _ _ _ _ _ _ _ _ _ _ _ _ _ _ _ _ _ _ _ _ _ _ _ _ _ _ _ _ _ _ ?_)
              first | (simp [bIf_rec, pIf_rec, bNot_rec, hb, hi, hp, Int.ofNat_eq_natCast, oConds, strip, St.ev, hpr]; done) | (simp only [bIf_rec, pIf_rec, bNot_rec, hb, hi, hp, Int.ofNat_eq_natCast]; done) | (simp [bIf_rec, pIf_rec, bNot_rec, hb, hi, hp, Int.ofNat_eq_natCast, oConds, strip, St.ev, hpr]; (repeat' apply And.intro) <;> first | exact Int.NonNeg.mk _ | omega)
          | some ci2 =>
            obtain ⟨d, hd⟩ := codeAt_get hcl2
            rw [codeI_some hcl2] at hcd1
            obtain ⟨cj, hcj⟩ : ∃ cj : Int, cj = ci2 := ⟨_, rfl⟩
            rw [← hcj] at hcd1
            have hUr := hrow ci2 d hcl2 hd
            have hdw := hpw.loaded.2 ci2 d hd
            have hdo := hpo.loaded ci2 d hd
            have hbi := hdo.bias
            have hdx : p.loaded[cj.toNat]? = some d := by rw [hcj]; exact hd
            have hdlt := (List.getElem?_eq_some_iff.1 hd).1
            obtain ⟨off, hoff⟩ : ∃ off : Int, off = wlk - d.bias := ⟨_, rfl⟩
            have huw := unwindOf_ok d.img.unw d.img.r.unw rfl hdw.img.unw.1 off
            have hqo : ∀ r, rowAt d.img.unw off = some r → r.Ok := fun r h => rowAt_ok hdo.img.unw h
            rw [← hoff] at hUr
            have eoff : (oi fun _ => IntKind.i64.wrap (wlk - d.bias)) = off := by rw [hi, hoff, wrap_i64 (by omega)]
            refine meanE_call hω (hcd1.any (by simp [undL, AV.und, agg, iV]) (by simp [AV.und, iV]) _) ?_ ?_
            · first | (simp [bIf_rec, pIf_rec, bNot_rec, hb, hi, hp, Int.ofNat_eq_natCast, oConds, strip, St.ev, hpr]; done) | (simp only [bIf_rec, pIf_rec, bNot_rec, hb, hi, hp, Int.ofNat_eq_natCast]; done) | (simp [bIf_rec, pIf_rec, bNot_rec, hb, hi, hp, Int.ofNat_eq_natCast, oConds, strip, St.ev, hpr]; (repeat' apply And.intro) <;> first | exact Int.NonNeg.mk _ | omega)
            conv => arg 4; cbv
            split
            · rename_i h3
              simp only [h3]
              obtain ⟨im, lb, lt, lu⟩ := d
              have hye : (Ldd.e ⟨im, lb, lt, lu⟩) = im.r.e ++ [iC lb, iC lt, iC lu] := rfl
              simp only at huw hUr hqo eoff
              generalize im.r = y at huw hye
              obtain ⟨name, shared, segs, entry, exps, imps, fixs, thr, thrSize, inits, finis, needs, id, lines, unw, files, types, vars, places⟩ := y
              simp only at huw
              conv => arg 4; cbv
              refine elemM hω hrl ?_ ?_ (fun _ => rfl) ?_ fun q3 hq3 => ?_
              · omega
              · omega
              · first | (simp [bIf_rec, pIf_rec, bNot_rec, hb, hi, hp, Int.ofNat_eq_natCast, oConds, strip, St.ev, hpr]; done) | (simp only [bIf_rec, pIf_rec, bNot_rec, hb, hi, hp, Int.ofNat_eq_natCast]; done) | (simp [bIf_rec, pIf_rec, bNot_rec, hb, hi, hp, Int.ofNat_eq_natCast, oConds, strip, St.ev, hpr]; (repeat' apply And.intro) <;> first | exact Int.NonNeg.mk _ | omega)
              obtain rfl := Option.some.inj (hdx.symm.trans hq3)
              simp only [hye]
              conv => arg 4; cbv
              refine elemM hω hrl ?_ ?_ (fun _ => rfl) ?_ fun q3 hq3 => ?_
              · omega
              · omega
              · first | (simp [bIf_rec, pIf_rec, bNot_rec, hb, hi, hp, Int.ofNat_eq_natCast, oConds, strip, St.ev, hpr]; done) | (simp only [bIf_rec, pIf_rec, bNot_rec, hb, hi, hp, Int.ofNat_eq_natCast]; done) | (simp [bIf_rec, pIf_rec, bNot_rec, hb, hi, hp, Int.ofNat_eq_natCast, oConds, strip, St.ev, hpr]; (repeat' apply And.intro) <;> first | exact Int.NonNeg.mk _ | omega)
              obtain rfl := Option.some.inj (hdx.symm.trans hq3)
              simp only [hye]
              conv => arg 4; cbv
              simp only [eoff]
              clear eoff hoff
              cases hra : rowAt im.unw off with
              | none =>
                rw [hra] at huw hUr
                simp only [Option.bind_none] at hUr
                simp only [unwF, UnwR.e] at huw
                refine meanE_callQ hω (huw.any (by simp [undL, AV.und, iV]) (by simp [AV.und, agg, undL]) _) ?_ ?_
                · first | (simp [bIf_rec, pIf_rec, bNot_rec, hb, hi, hp, Int.ofNat_eq_natCast, oConds, strip, St.ev, hpr]; done) | (simp only [bIf_rec, pIf_rec, bNot_rec, hb, hi, hp, Int.ofNat_eq_natCast]; done) | (simp [bIf_rec, pIf_rec, bNot_rec, hb, hi, hp, Int.ofNat_eq_natCast, oConds, strip, St.ev, hpr]; (repeat' apply And.intro) <;> first | exact Int.NonNeg.mk _ | omega)
                obtain ⟨N, hNN⟩ : ∃ N : Nat, N = 99996 := ⟨_, rfl⟩
                rw [show (100000 : Nat) = Nat.succ (Nat.succ (Nat.succ (Nat.succ (N)))) from by rw [hNN]]
                conv => arg 4; cbv
                rw [hB0, ← runc.eq_def ⟨oi, ob, op, os, on, or_, om⟩ N]
                refine meanE_le (n := 90000) (m := N) (by omega) (hB (-1) 0 0 0 (by omega) (by omega) (fun _ => hUr) (fun h => by omega) _ _ _ _ _ _ _ _ _ _ _ _ _ _ _ _ _ _ _ _ _ _ _ _ _ _ _ _ _ _ _ _ _ _ _ _ _ _ _ _ _ _ _ _ _ _ _ _ _ _ _ _ _ _ _ _ _ _ _ _ _ _ _ _ _ _ _ _ _ _ _ _ _ _ _ _ _ _ _ _ _ _ _ _ _ _ _ _ _ _ _ _ _ _ _ _ _ _ _ _ _ _ _ _ _ _ _ _ _ _ _ _ _ _ _ _ _ _ _ _ _ _ _ _ _ _ _ _ _ _ _ _ _ _ _ _ _ _ _ _ _ _ _ _ _ _ ?_)
                first | (simp [bIf_rec, pIf_rec, bNot_rec, hb, hi, hp, Int.ofNat_eq_natCast, oConds, strip, St.ev, hpr]; done) | (simp only [bIf_rec, pIf_rec, bNot_rec, hb, hi, hp, Int.ofNat_eq_natCast]; done) | (simp [bIf_rec, pIf_rec, bNot_rec, hb, hi, hp, Int.ofNat_eq_natCast, oConds, strip, St.ev, hpr]; (repeat' apply And.intro) <;> first | exact Int.NonNeg.mk _ | omega)
              | some r =>
                rw [hra] at huw hUr
                have hro := hqo r hra
                have hreg := hro.reg
                have hsv := hro.saved
                simp only [Option.bind_some] at hUr
                obtain ⟨qo, qr, qa, qs⟩ := r
                simp only at hreg hsv
                simp only [unwF, UnwR.e] at huw
                have hUneg : qr < 0 → U = none := fun h => by rw [hUr]; unfold upRow; rw [if_pos (.inl h)]
                have hUpos : 0 ≤ qr → U = upRow p buf ⟨[r0, r1, r2, r3, r4, r5, r6, r7], wa, wp, wlk⟩ ⟨0, qr, qa, qs⟩ := fun _ => hUr
                refine meanE_callQ hω (huw.any (by simp [undL, AV.und, iV]) (by simp [AV.und, agg, undL]) _) ?_ ?_
                · first | (simp [bIf_rec, pIf_rec, bNot_rec, hb, hi, hp, Int.ofNat_eq_natCast, oConds, strip, St.ev, hpr]; done) | (simp only [bIf_rec, pIf_rec, bNot_rec, hb, hi, hp, Int.ofNat_eq_natCast]; done) | (simp [bIf_rec, pIf_rec, bNot_rec, hb, hi, hp, Int.ofNat_eq_natCast, oConds, strip, St.ev, hpr]; (repeat' apply And.intro) <;> first | exact Int.NonNeg.mk _ | omega)
                obtain ⟨N, hNN⟩ : ∃ N : Nat, N = 99996 := ⟨_, rfl⟩
                rw [show (100000 : Nat) = Nat.succ (Nat.succ (Nat.succ (Nat.succ (N)))) from by rw [hNN]]
                conv => arg 4; cbv
                rw [hB0, ← runc.eq_def ⟨oi, ob, op, os, on, or_, om⟩ N]
                refine meanE_le (n := 90000) (m := N) (by omega) (hB qr qa qs 0 hreg hsv hUneg hUpos _ _ _ _ _ _ _ _ _ _ _ _ _ _ _ _ _ _ _ _ _ _ _ _ _ _ _ _ _ _ _ _ _ _ _ _ _ _ _ _ _ _ _ _ _ _ _ _ _ _ _ _ _ _ _ _ _ _ _ _ _ _ _ _ _ _ _ _ _ _ _ _ _ _ _ _ _ _ _ _ _ _ _ _ _ _ _ _ _ _ _ _ _ _ _ _ _ _ _ _ _ _ _ _ _ _ _ _ _ _ _ _ _ _ _ _ _ _ _ _ _ _ _ _ _ _ _ _ _ _ _ _ _ _ _ _ _ _ _ _ _ _ _ _ _ _ ?_)
                first | (simp [bIf_rec, pIf_rec, bNot_rec, hb, hi, hp, Int.ofNat_eq_natCast, oConds, strip, St.ev, hpr]; done) | (simp only [bIf_rec, pIf_rec, bNot_rec, hb, hi, hp, Int.ofNat_eq_natCast]; done) | (simp [bIf_rec, pIf_rec, bNot_rec, hb, hi, hp, Int.ofNat_eq_natCast, oConds, strip, St.ev, hpr]; (repeat' apply And.intro) <;> first | exact Int.NonNeg.mk _ | omega)
            · rename_i h3
              exfalso
              simp only [bIf_rec, pIf_rec, bNot_rec, hb, hi, hp, Int.ofNat_eq_natCast] at h3
              simp at h3
              omega
        · rename_i h2
          exfalso
          simp only [bIf_rec, pIf_rec, bNot_rec, hb, hi, hp, Int.ofNat_eq_natCast, condF] at h2
          simp at h2
          omega
    · rename_i h
      simp only [h]
      simp only [bIf_rec, pIf_rec, bNot_rec, hb, hi, hp, Int.ofNat_eq_natCast] at h
      have hn40' : n + 1 = 40 := by simp at h; omega
      have hWF : WF = [] := by rw [← hwle, hn40']; rfl
      rw [hWF] at hwk
      simp only [List.map_nil, List.append_nil] at hwk
      conv => arg 4; cbv
      refine roundG_out hω ?_ (fun h => by cases h) ?_
      · conv => arg 4; cbv
        refine meanE_fin hω _ (by (conv => lhs; cbv); all_goals rfl) ⟨rfl, rfl⟩ ?_ (fun e he => by cases he) ?_ ?_
        · rw [hr, ← hwk, List.take_of_length_le (by omega)]
        · first | trivial | (simp [bIf_rec, pIf_rec, bNot_rec, hb, hi, hp, Int.ofNat_eq_natCast]; done)
        · simp
      · first | (simp [bIf_rec, pIf_rec, bNot_rec, hb, hi, hp, Int.ofNat_eq_natCast, oConds, strip, St.ev, hpr]; done) | (simp only [bIf_rec, pIf_rec, bNot_rec, hb, hi, hp, Int.ofNat_eq_natCast]; done) | (simp [bIf_rec, pIf_rec, bNot_rec, hb, hi, hp, Int.ofNat_eq_natCast, oConds, strip, St.ev, hpr]; (repeat' apply And.intro) <;> first | exact Int.NonNeg.mk _ | omega)

end Go.Den.Z
