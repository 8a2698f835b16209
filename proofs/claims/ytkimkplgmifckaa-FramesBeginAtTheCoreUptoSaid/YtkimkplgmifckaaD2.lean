/-
  Part of the proof that FramesBeginAtTheCore returns true: the contract of walker.up, second memory.
  No condition.
-/
import Derived.Test.YtkimkplgmifckaaD0
set_option linter.unusedSimpArgs false
set_option linter.unusedVariables false
set_option maxRecDepth 20000
set_option maxHeartbeats 8000000
namespace Go.Den.Z
open Go.Proofs
theorem up8_ok (p : Prc) (hpw : p.Wf) (hpo : p.Ok) (rl rm rc ro : List (List CV)) (hrl : rl = p.loaded.map Ldd.e) (hrm : rm = p.mem.map Pag.e) (hrc : rc = p.cores.map Cor.e) (lz : Bool) (k : Int) (c : Cor) (hk0 : 0 ≤ k) (hk : p.cores[k.toNat]? = some c) (w : Wk) (hw : WkOk w) (E0 E1 E2 E3 E5 E6 E7 : Ent) (hE0 : Ent.und 8 E0) (hE1 : Ent.und 8 E1) (hE2 : Ent.und 8 E2) (hE3 : Ent.und 8 E3) (hE5 : Ent.und 8 E5) (hE6 : Ent.und 8 E6) (hE7 : Ent.und 8 E7) :
    ACalls P 18 [.op 4 0 0] [E0, E1, E2, E3, wkE rl rm rc ro lz k w, E5, E6, E7] (fun r H' => r = upR (upOf p c.buf w) ∧ H' = [E0, E1, E2, E3, wkE rl rm rc ro lz k (upW w (upOf p c.buf w)), E5, E6, E7]) := by
  suffices h : ∃ v : Option (Int × Wk), v = upOf p c.buf w ∧ ACalls P 18 [.op 4 0 0] [E0, E1, E2, E3, wkE rl rm rc ro lz k w, E5, E6, E7] (fun r H' => r = upR v ∧ H' = [E0, E1, E2, E3, wkE rl rm rc ro lz k (upW w v), E5, E6, E7]) by
    obtain ⟨v, rfl, h⟩ := h
    exact h
  have hll : rl.length = p.loaded.length := by rw [hrl]; simp
  have hcode := code_ok p.loaded rl rm rc ro hrl hpw.loaded.1 hpo.loaded hpw.loaded lz w.look (by have := hw.look; omega)
  have hword := fun a ha => word_ok p.mem p.cores rl rm rc ro hrm hrc hpo.mem hpw.mem hpw.cores hpo.cores lz k c hk0 hk a ha
  have hwdu := fun a n => wordOf_u32 (m := p.mem) (fun i q h => (hpw.mem.2 i q h).data) (buf := c.buf) (a := a) (n := n)
  have hnone := upOf_code (p := p) (buf := c.buf) (w := w)
  have hrow := fun i d => upOf_row (p := p) (buf := c.buf) (w := w) (i := i) (d := d)
  have hget := fun i => codeAt_get (l := p.loaded) (a := w.look) (i := i)
  have hcr1 := fun i d => codeR_some (l := p.loaded) (a := w.look) (i := i) (d := d)
  have hcr0 := codeR_none (l := p.loaded) (a := w.look)
  generalize upOf p c.buf w = U at hnone hrow ⊢
  have hwregs := hw.regs.1
  have hwl := hw.look
  have hwpc := hw.pc
  have hwu := hw.regs.2
  obtain ⟨wr, wa, wp, wlk⟩ := w
  simp only at hwregs hwl hwpc hwu hcode hnone hrow hget hcr1 hcr0
  obtain ⟨r0, r1, r2, r3, r4, r5, r6, r7, rfl⟩ := len8 hwregs
  unfold wkE
  simp only [List.map_cons, List.map_nil, List.cons_append, List.nil_append]
  obtain ⟨kn, hkn⟩ : ∃ kn : Int, kn = if wa = true then 255 else 192 := ⟨_, rfl⟩
  rw [← hkn]
  obtain ⟨oi, ob, op, os, on, or_, om, hω⟩ := shields
  have hi : ∀ f, oi f = f () := hω.i
  have hb : ∀ f, ob f = f () := hω.b
  have hp : ∀ f, op f = f () := hω.p
  have hs : ∀ f, os f = f () := hω.s
  have hr : ∀ f, or_ f = f () := hω.r
  refine ACalls.runE hmix hω q_frames_walker_up ?_
  unfold c_frames_walker_up
  conv => arg 4; cbv
  refine callQE hω hcode (by (try (conv => cbv)); simp [undL, AV.und, agg]) (fun v => by simp [AV.und, undL, iV, bV, wV, fltV, agg]) ?_ fun v hv => ?_
  · first | (simp; done) | (simp; (repeat' apply And.intro) <;> exact Int.NonNeg.mk _)
  obtain ⟨v1, v2, v3⟩ := v
  cases hca : codeAt p.loaded wlk with
  | none =>
    rw [hcr0 hca] at hv
    simp only [Prod.mk.injEq] at hv
    obtain ⟨rfl, rfl, rfl⟩ := hv
    conv => arg 4; cbv
    refine meanE_fin hω (none) (by (conv => lhs; cbv); all_goals rfl) ⟨rfl, by simp only [hkn]; rfl⟩ ((hnone hca).symm) (by intro e he; simp at he; rcases he with rfl | rfl | rfl | rfl | rfl | rfl | rfl | rfl <;> first | assumption | (simp [Ent.und, undL, AV.und]; done)) ?_ ?_
    · first | (simp; done) | (simp; (repeat' apply And.intro) <;> exact Int.NonNeg.mk _)
    · first | (simp; done) | (simp; (repeat' apply And.intro) <;> exact Int.NonNeg.mk _)
  | some i =>
    obtain ⟨d, hd⟩ := hget i hca
    rw [hcr1 i d hd hca] at hv
    simp only [Prod.mk.injEq] at hv
    obtain ⟨rfl, hv2, rfl⟩ := hv
    obtain ⟨off, hoff⟩ : ∃ off : Int, off = wlk - d.bias := ⟨_, rfl⟩
    rw [← hoff] at hv2
    subst hv2
    have hUr := hrow i d hca hd
    rw [← hoff] at hUr
    obtain ⟨ii, hii⟩ : ∃ ii : Int, ii = i := ⟨_, rfl⟩
    rw [← hii]
    have hdw := hpw.loaded.2 i d hd
    have hdo := hpo.loaded i d hd
    conv => arg 4; cbv
    refine elemM hω hrl ?_ ?_ (fun _ => rfl) ?_ fun q hq => ?_
    · omega
    · have := (List.getElem?_eq_some_iff.1 hd).1; omega
    · first | (simp; done) | (simp; (repeat' apply And.intro) <;> exact Int.NonNeg.mk _)
    obtain rfl : d = q := Option.some.inj (hd.symm.trans (by rw [← hq, hii]; rfl))
    have hbi := hdo.bias
    have hrk := row_ok d.img.unw d.img.r.unw rfl (fun j a b ha hb => by
      simp only [List.getElem?_map, Option.map_eq_some_iff] at ha hb
      obtain ⟨qa, ha, rfl⟩ := ha
      obtain ⟨qb, hb, rfl⟩ := hb
      exact hdo.img.unwS j qa qb ha hb) hdw.img.unw.1 v2
    have huo : ∀ r, rowAt d.img.unw v2 = some r → r.Ok := fun r h => rowAt_ok hdo.img.unw h
    have hrR0 : rowAt d.img.unw v2 = none → rowR d.img.unw v2 = (⟨0, 0, 0, 0⟩, false) := fun h => by unfold rowR; rw [h]
    have hrR1 : ∀ r, rowAt d.img.unw v2 = some r → rowR d.img.unw v2 = (r, true) := fun r h => by unfold rowR; rw [h]
    obtain ⟨im, lb, lt, lu⟩ := d
    simp only at hrk huo hUr hbi hrR0 hrR1
    generalize rowR im.unw v2 = rr at hrk hrR0 hrR1
    generalize rowAt im.unw v2 = ra at huo hUr hrR0 hrR1
    simp only [Ldd.e]
    rw [← Img.r_e]
    generalize im.r = y at hrk ⊢
    obtain ⟨name, shared, segs, entry, exps, imps, fixs, thr, thrSize, inits, finis, needs, id, lines, unw, files, types, vars, places⟩ := y
    simp only at hrk
    conv => arg 4; cbv
    cases ra with
    | none =>
      rw [hrR0 rfl] at hrk
      refine meanE_call hω (hrk.any (by simp [undL, AV.und, iV]) (by simp [AV.und, agg, UnwR.e, bV, undL]) _) ?_ ?_
      · simp [oConds, strip, St.ev]
      conv => arg 4; cbv
      refine meanE_fin hω (none) (by (conv => lhs; cbv); all_goals rfl) ⟨rfl, by simp only [hkn]; rfl⟩ (hUr.symm) (by intro e he; simp at he; rcases he with rfl | rfl | rfl | rfl | rfl | rfl | rfl | rfl <;> first | assumption | (simp [Ent.und, undL, AV.und]; done)) ?_ ?_
      · first | (simp; done) | (simp; (repeat' apply And.intro) <;> exact Int.NonNeg.mk _)
      · first | (simp; done) | (simp; (repeat' apply And.intro) <;> exact Int.NonNeg.mk _)
    | some r =>
      rw [hrR1 r rfl] at hrk
      have hro := huo r rfl
      simp only [Option.bind_some] at hUr
      have hreg := hro.reg
      obtain ⟨qo, qr, qa, qs⟩ := r
      simp only at hreg hrk
      simp only [upRow] at hUr
      have hq9 : qr = -1 ∨ qr = 0 ∨ qr = 1 ∨ qr = 2 ∨ qr = 3 ∨ qr = 4 ∨ qr = 5 ∨ qr = 6 ∨ qr = 7 := by omega
      have hkn2 : (kn = 255 ∧ wa = true) ∨ (kn = 192 ∧ wa = false) := by cases wa <;> simp [hkn]
      refine meanE_call hω (hrk.any (by simp [undL, AV.und, iV]) (by simp [AV.und, agg, UnwR.e, bV, undL]) _) ?_ ?_
      · simp [oConds, strip, St.ev]
      obtain ⟨base, hbase⟩ : ∃ b : Int, b = u32 (List.getD [r0, r1, r2, r3, r4, r5, r6, r7] qr.toNat 0 + u32 qa) := ⟨_, rfl⟩
      have hU0 : (qr < 0 ∨ (wa = false ∧ qr < 6)) → U = none := fun h => by rw [hUr, if_pos h]
      have hU2 : ¬ (qr < 0 ∨ (wa = false ∧ qr < 6)) → U = (wordOf p.mem c.buf (u32 (base - 4))).bind fun pc => (if qs < 0 then wordOf p.mem c.buf (u32 (base + u32 qs)) else some r6).map fun fp => (base, ⟨[r0, r1, r2, r3, r4, r5, fp, base], false, pc, pc - 1⟩) := fun h => by
        rw [hUr, if_neg h, hbase]; rfl
      have hbu : u32r base := by rw [hbase]; exact u32_range _
      obtain ⟨bm, hbm⟩ : ∃ b : Int, b = u32 (base - 4) := ⟨_, rfl⟩
      have e2 : (oi fun _ => IntKind.u32.wrap (base - 4)) = bm := by rw [hi, hbm]; rfl
      obtain ⟨bs, hbs⟩ : ∃ b : Int, b = u32 (base + u32 qs) := ⟨_, rfl⟩
      have e3 : (oi fun _ => IntKind.u32.wrap (base + (oi fun _ => IntKind.u32.wrap qs))) = bs := by rw [hi, hi, hbs]; rfl
      have e0 : ∀ r : Int, (oi fun _ => IntKind.u32.wrap (r + (oi fun _ => IntKind.u32.wrap qa))) = u32 (r + u32 qa) := fun r => by rw [hi, hi]; rfl
      rw [← hbm, ← hbs] at hU2
      clear hUr
      rcases hq9 with rfl | rfl | rfl | rfl | rfl | rfl | rfl | rfl | rfl
      · conv => arg 4; cbv
        split
        · rename_i h3
          conv => arg 4; cbv
          refine meanE_fin hω (none) (by (conv => lhs; cbv); all_goals rfl) ⟨rfl, by simp only [hkn]; rfl⟩ ((hU0 (.inl (by decide))).symm) (by intro e he; simp at he; rcases he with rfl | rfl | rfl | rfl | rfl | rfl | rfl | rfl <;> first | assumption | (simp [Ent.und, undL, AV.und]; done)) ?_ ?_
          · simp only [bIf_rec, pIf_rec, bNot_rec, hb, hi, hp, Int.ofNat_eq_natCast]; simp
          · first | (simp; done) | (simp; (repeat' apply And.intro) <;> exact Int.NonNeg.mk _)
        · rename_i h3
          exfalso
          simp only [bIf_rec, pIf_rec, bNot_rec, hb, hi, hp, Int.ofNat_eq_natCast] at h3
          simp at h3
      all_goals rcases hkn2 with ⟨rfl, rfl⟩ | ⟨rfl, rfl⟩
      all_goals conv => arg 4; cbv
      all_goals split
      all_goals rename_i h3
      all_goals first
        | (exfalso; simp only [bIf_rec, pIf_rec, bNot_rec, hb, hi, hp, Int.ofNat_eq_natCast] at h3; revert h3; decide)
        | ((have hU3 : U = none := by exact hU0 (.inr ⟨rfl, by decide⟩))
           conv => arg 4; cbv
           refine meanE_fin hω (none) (by (conv => lhs; cbv); all_goals rfl) ⟨rfl, rfl⟩ (hU3.symm) (by intro e he; simp at he; rcases he with rfl | rfl | rfl | rfl | rfl | rfl | rfl | rfl <;> first | assumption | (simp [Ent.und, undL, AV.und]; done)) ?_ ?_
           · simp only [bIf_rec, pIf_rec, bNot_rec, hb, hi, hp, Int.ofNat_eq_natCast]; simp
           · simp)
        | skip
      all_goals replace hU2 := hU2 (by simp)
      all_goals simp only [h3]
      all_goals
        conv => arg 4; cbv
        simp only [e0]
        conv at hbase => rhs; arg 1; lhs; cbv
        rw [← hbase]
        clear hbase
        simp only [e2]
        refine callQE hω (hword bm (by rw [hbm]; exact u32_range _)) (by (try (conv => cbv)); simp [undL, AV.und, agg]) (fun v => by simp [AV.und, undL, iV, bV, wV, fltV, agg]) ?_ fun v hv => ?_
        · simp only [bIf_rec, pIf_rec, bNot_rec, hb, hi, hp, Int.ofNat_eq_natCast]; first | (simp [oConds, strip, St.ev]; done) | (simp [oConds, strip, St.ev]; (repeat' apply And.intro) <;> exact Int.NonNeg.mk _)
        obtain ⟨v1, v4⟩ := v
        cases hw1 : wordOf p.mem c.buf bm with
        | none =>
          rw [hw1] at hv hU2
          simp only [optR, Prod.mk.injEq] at hv
          obtain ⟨rfl, rfl⟩ := hv
          conv => arg 4; cbv
          refine meanE_fin hω (none) (by (conv => lhs; cbv); all_goals rfl) ⟨rfl, rfl⟩ (hU2.symm) (by intro e he; simp at he; rcases he with rfl | rfl | rfl | rfl | rfl | rfl | rfl | rfl <;> first | assumption | (simp [Ent.und, undL, AV.und]; done)) ?_ ?_
          · first | (simp; done) | (simp; (repeat' apply And.intro) <;> exact Int.NonNeg.mk _)
          · first | (simp; done) | (simp; (repeat' apply And.intro) <;> exact Int.NonNeg.mk _)
        | some pc =>
          have hpcu := hwdu _ _ hw1
          rw [hw1] at hv hU2
          simp only [optR, Prod.mk.injEq] at hv
          obtain ⟨rfl, rfl⟩ := hv
          simp only [Option.bind_some] at hU2
          unfold u32r at hpcu
          obtain ⟨lk, hlk⟩ : ∃ lk : Int, lk = v1 - 1 := ⟨_, rfl⟩
          have e4 : (oi fun _ => IntKind.i64.wrap ((oi fun _ => IntKind.i64.wrap v1) - 1)) = lk := by rw [hi, hi, wrap_i64 (n := v1) (by omega), wrap_i64 (by omega), hlk]
          rw [← hlk] at hU2
          clear hlk
          conv => arg 4; cbv
          split
          · rename_i h4
            simp only [h4]
            simp only [bIf_rec, pIf_rec, bNot_rec, hb, hi, hp, Int.ofNat_eq_natCast] at h4
            rw [if_pos (by simpa using h4)] at hU2
            conv => arg 4; cbv
            simp only [e3]
            refine callQE hω (hword bs (by rw [hbs]; exact u32_range _)) (by (try (conv => cbv)); simp [undL, AV.und, agg]) (fun v => by simp [AV.und, undL, iV, bV, wV, fltV, agg]) ?_ fun v hv => ?_
            · simp only [bIf_rec, pIf_rec, bNot_rec, hb, hi, hp, Int.ofNat_eq_natCast]; first | (simp [oConds, strip, St.ev]; done) | (simp [oConds, strip, St.ev]; (repeat' apply And.intro) <;> exact Int.NonNeg.mk _)
            obtain ⟨v5, v6⟩ := v
            cases hw2 : wordOf p.mem c.buf bs with
            | none =>
              rw [hw2] at hv hU2
              simp only [optR, Prod.mk.injEq] at hv
              obtain ⟨rfl, rfl⟩ := hv
              conv => arg 4; cbv
              refine meanE_fin hω (none) (by (conv => lhs; cbv); all_goals rfl) ⟨rfl, rfl⟩ (hU2.symm) (by intro e he; simp at he; rcases he with rfl | rfl | rfl | rfl | rfl | rfl | rfl | rfl <;> first | assumption | (simp [Ent.und, undL, AV.und]; done)) ?_ ?_
              · first | (simp; done) | (simp; (repeat' apply And.intro) <;> exact Int.NonNeg.mk _)
              · first | (simp; done) | (simp; (repeat' apply And.intro) <;> exact Int.NonNeg.mk _)
            | some fp =>
              rw [hw2] at hv hU2
              simp only [optR, Prod.mk.injEq] at hv
              obtain ⟨rfl, rfl⟩ := hv
              conv => arg 4; cbv
              simp only [e4]
              refine meanE_fin hω (some (base, ⟨[r0, r1, r2, r3, r4, r5, v5, base], false, v1, lk⟩)) (by (conv => lhs; cbv); all_goals rfl) ⟨rfl, rfl⟩ (hU2.symm) (by intro e he; simp at he; rcases he with rfl | rfl | rfl | rfl | rfl | rfl | rfl | rfl <;> first | assumption | (simp [Ent.und, undL, AV.und]; done)) ?_ ?_
              · first | (simp; done) | (simp; (repeat' apply And.intro) <;> exact Int.NonNeg.mk _)
              · first | (simp; done) | (simp; (repeat' apply And.intro) <;> exact Int.NonNeg.mk _)
          · rename_i h4
            simp only [h4]
            simp only [bIf_rec, pIf_rec, bNot_rec, hb, hi, hp, Int.ofNat_eq_natCast] at h4
            rw [if_neg (by simpa using h4)] at hU2
            conv => arg 4; cbv
            simp only [e4]
            refine meanE_fin hω (some (base, ⟨[r0, r1, r2, r3, r4, r5, r6, base], false, v1, lk⟩)) (by (conv => lhs; cbv); all_goals rfl) ⟨rfl, rfl⟩ (hU2.symm) (by intro e he; simp at he; rcases he with rfl | rfl | rfl | rfl | rfl | rfl | rfl | rfl <;> first | assumption | (simp [Ent.und, undL, AV.und]; done)) ?_ ?_
            · first | (simp; done) | (simp; (repeat' apply And.intro) <;> exact Int.NonNeg.mk _)
            · first | (simp; done) | (simp; (repeat' apply And.intro) <;> exact Int.NonNeg.mk _)

end Go.Den.Z
