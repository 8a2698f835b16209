/-
  Part of the proof that FramesBeginAtTheCore returns true: the law, whatever the process: it returns true.
  No condition.
-/
import Derived.Test.YtkimkplgmifckaaD3
import Derived.Test.YtkimkplgmifckaaE0
import Derived.Test.YtkimkplgmifckaaF1
set_option linter.unusedSimpArgs false
set_option linter.unusedVariables false
set_option maxRecDepth 20000
set_option maxHeartbeats 8000000
namespace Go.Den.Z
open Go.Proofs
theorem walkF_len (p : Prc) (buf : List Pnd) : ∀ n w, (walkF p buf n w).length ≤ n := by
  intro n
  induction n with
  | zero => intro w; exact Nat.le_refl _
  | succ n ih =>
    intro w
    simp only [walkF]
    cases codeAt p.loaded w.pc with
    | none => exact Nat.zero_le _
    | some i =>
      cases upOf p buf w with
      | none => simp
      | some x => simp only [List.length_cons]; have := ih x.2; omega
theorem walkOf_head (p : Prc) (c : Cor) : (codeAt p.loaded c.pc = none ∧ walkOf p c = []) ∨ (∃ i b r, codeAt p.loaded c.pc = some i ∧ walkOf p c = (c.pc, b) :: r) := by
  unfold walkOf
  simp only [walkF]
  cases h : codeAt p.loaded c.pc with
  | none => exact .inl ⟨rfl, rfl⟩
  | some i =>
    cases upOf p c.buf ⟨c.regs, true, c.pc, c.pc⟩ with
    | none => exact .inr ⟨i, _, _, rfl, rfl⟩
    | some x => exact .inr ⟨i, _, _, rfl, rfl⟩
theorem list_head {w : List (List CV)} {x : List CV} (h : w[(0 : Int).toNat]? = some x) : ∃ r, w = x :: r := by
  cases w with
  | nil => simp at h
  | cons y r => simp at h; exact ⟨r, by rw [h]⟩
theorem law_ok (p : Prc) (hpw : p.Wf) (k : Int) : PCalls P 3 [agg p.e, iV k] [] (bV true) := by
  obtain ⟨rl, hrl⟩ : ∃ r, r = p.loaded.map Ldd.e := ⟨_, rfl⟩
  obtain ⟨rm, hrm⟩ : ∃ r, r = p.mem.map Pag.e := ⟨_, rfl⟩
  obtain ⟨rc, hrc⟩ : ∃ r, r = p.cores.map Cor.e := ⟨_, rfl⟩
  obtain ⟨ro, hro⟩ : ∃ r, r = p.out.map eI := ⟨_, rfl⟩
  have hpe : p.e = [.sl rl, .sl rm, .sl rc, .sl ro, bC p.lzy] := by rw [hrl, hrm, hrc, hro]; rfl
  rw [hpe]
  obtain ⟨g, hg, hval⟩ := loadValidate_ok p hpw rl rm rc ro hrl hrm hrc hro p.lzy
  obtain ⟨w, hw, hwalk⟩ := walk_ok p hpw rl rm rc ro hrl hrm hrc p.lzy k g hg hval
  have hwk := walked_ok
  generalize p.lzy = lz at *
  clear hpe hval
  suffices h : ∃ v : Bool, v = true ∧ PCalls P 3 [agg [.sl rl, .sl rm, .sl rc, .sl ro, bC lz], iV k] [] (bV v) by
    obtain ⟨v, rfl, h⟩ := h
    exact h
  obtain ⟨oi, ob, op, os, on, or_, om, hω⟩ := shields
  have hi : ∀ f, oi f = f () := hω.i
  have hb : ∀ f, ob f = f () := hω.b
  have hp : ∀ f, op f = f () := hω.p
  have hs : ∀ f, os f = f () := hω.s
  have hr : ∀ f, or_ f = f () := hω.r
  have hcase : w.2.1 ≠ 0 ∨ (g.1 = 0 ∧ 0 ≤ k ∧ ∃ c, p.cores[k.toNat]? = some c ∧ w = ((walkOf p c).map frE, 0, 0)) := by
    by_cases hg0 : g.1 = 0
    · by_cases hk : k < 0 ∨ p.cores.length ≤ k
      · rw [hw.2.1 hg0 hk]
        exact .inl (by decide)
      · have hkc : p.cores[k.toNat]? = some (p.cores[k.toNat]'(by omega)) := by simp
        exact .inr ⟨hg0, by omega, _, hkc, hw.2.2 hg0 (by omega) _ hkc⟩
    · rw [hw.1 hg0]
      exact .inl hg0
  obtain ⟨w1, w2, w3⟩ := w
  refine PCalls.runE hmix hω q_linkhouselaw8_FramesBeginAtTheCore ?_
  unfold c_linkhouselaw8_FramesBeginAtTheCore
  rcases hcase with hne | ⟨hg0, hk0, c, hkc, hwe⟩
  · simp only at hwalk hne
    conv => arg 4; cbv
    refine meanE_call hω (hwalk.any (by simp [undL, AV.und, agg, iV]) (by simp [AV.und, fltV, agg, undL]) _) ?_ ?_
    · first | (simp [bIf_rec, pIf_rec, bNot_rec, hb, hi, hp, Int.ofNat_eq_natCast, oConds, strip, St.ev]; done) | (simp only [bIf_rec, pIf_rec, bNot_rec, hb, hi, hp, Int.ofNat_eq_natCast]; done) | (simp [bIf_rec, pIf_rec, bNot_rec, hb, hi, hp, Int.ofNat_eq_natCast, oConds, strip, St.ev]; (repeat' apply And.intro) <;> first | exact Int.NonNeg.mk _ | omega)
    conv => arg 4; cbv
    split
    · rename_i h
      simp only [h]
      conv => arg 4; cbv
      refine meanE_call hω (hwk.any (by simp [undL]) (by simp [AV.und, bV]) _) ?_ ?_
      · first | (simp [bIf_rec, pIf_rec, bNot_rec, hb, hi, hp, Int.ofNat_eq_natCast, oConds, strip, St.ev]; done) | (simp only [bIf_rec, pIf_rec, bNot_rec, hb, hi, hp, Int.ofNat_eq_natCast]; done) | (simp [bIf_rec, pIf_rec, bNot_rec, hb, hi, hp, Int.ofNat_eq_natCast, oConds, strip, St.ev]; (repeat' apply And.intro) <;> first | exact Int.NonNeg.mk _ | omega)
      conv => arg 4; cbv
      refine meanE_fin hω true (by (conv => lhs; cbv); all_goals rfl) ⟨rfl, rfl⟩ rfl (fun e he => by cases he) ?_ ?_
      · first | (simp [bIf_rec, pIf_rec, bNot_rec, hb, hi, hp, Int.ofNat_eq_natCast, oConds, strip, St.ev]; done) | (simp only [bIf_rec, pIf_rec, bNot_rec, hb, hi, hp, Int.ofNat_eq_natCast]; done) | (simp [bIf_rec, pIf_rec, bNot_rec, hb, hi, hp, Int.ofNat_eq_natCast, oConds, strip, St.ev]; (repeat' apply And.intro) <;> first | exact Int.NonNeg.mk _ | omega)
      · simp
    · rename_i h
      exfalso
      simp only [bIf_rec, pIf_rec, bNot_rec, hb, hi, hp, Int.ofNat_eq_natCast] at h
      simp at h
      exact hne h
  · obtain ⟨_, hpo⟩ := hg hg0
    have hkw := hpw.cores.2 _ _ hkc
    have hrk : rc[k.toNat]? = some c.e := by rw [hrc]; simp [hkc]
    have hcl : c.e.length = 33 := by simp [Cor.e, hkw.regs.1, hkw.vecs.1]
    have h8 := hkw.regs.1
    have h16 := hkw.vecs.1
    have hpc := hkw.pc
    have hcode := codeOf_ok p.loaded rl rm rc ro hrl hpw.loaded.1 hpo.loaded hpw.loaded lz c.pc (by unfold u32r at hpc; omega)
    have hlen := walkF_len p c.buf 40 ⟨c.regs, true, c.pc, c.pc⟩
    have hhead := walkOf_head p c
    have hdef : walkOf p c = walkF p c.buf 40 ⟨c.regs, true, c.pc, c.pc⟩ := rfl
    rw [← hdef] at hlen
    clear hdef
    simp only [Prod.mk.injEq] at hwe
    obtain ⟨hwe1, rfl, rfl⟩ := hwe
    simp only at hwalk
    have epc : (oi fun _ => IntKind.i64.wrap c.pc) = c.pc := by rw [hi, wrap_i64 (by unfold u32r at hpc; omega)]
    have hw1l : w1.length = (walkOf p c).length := by rw [hwe1]; simp
    obtain ⟨cw, hcw⟩ : ∃ cw : List CV, cw = c.e := ⟨_, rfl⟩
    rw [← hcw] at hrk hcl
    obtain ⟨regs, vecs, flags, pc, tp, user, stopped, handler, cause, saved, buf⟩ := c
    simp only at h8 h16 hcode hhead epc
    obtain ⟨r0, r1, r2, r3, r4, r5, r6, r7, rfl⟩ := len8 h8
    obtain ⟨v0, v1, v2, v3, v4, v5, v6, v7, v8, v9, u0, u1, u2, u3, u4, u5, rfl⟩ := len16 h16
    simp only [Cor.e, List.map_cons, List.map_nil, List.cons_append, List.nil_append] at hcw
    generalize buf.map Pnd.e = rb at hcw
    have hrow : (w1 = [] ∧ codeI p.loaded pc = -1) ∨ (∃ i : Nat, codeI p.loaded pc = i ∧ ∃ b, w1[(0 : Int).toNat]? = some [wC pc, wC b]) := by
      rcases hhead with ⟨h1, h2⟩ | ⟨i, b, r, h1, h2⟩
      · exact .inl ⟨by rw [hwe1, h2]; rfl, codeI_none h1⟩
      · exact .inr ⟨i, codeI_some h1, b, by rw [hwe1, h2]; rfl⟩
    generalize codeI p.loaded pc = ci at hcode hrow
    have hl40 : w1.length ≤ 40 := by rw [hw1l]; exact hlen
    clear hlen hhead hwe1 hw1l hkc hkw hpc hpw hpo
    rcases hrow with ⟨rfl, rfl⟩ | ⟨i, rfl, b, hw⟩
    all_goals try (obtain ⟨wr, rfl⟩ := list_head hw)
    all_goals try clear hw
    all_goals try (have hl39 : wr.length ≤ 39 := by simpa using hl40)
    all_goals try (have hcons : ([wC pc, wC b] :: wr)[(0 : Int).toNat]? = some [wC pc, wC b] := rfl)
    all_goals (conv => arg 4; cbv)
    all_goals refine meanE_call hω (hwalk.any (by simp [undL, AV.und, agg, iV]) (by simp [AV.und, fltV, agg, undL]) _) ?_ ?_
    all_goals try (first | (simp [bIf_rec, pIf_rec, bNot_rec, hb, hi, hp, Int.ofNat_eq_natCast, oConds, strip, St.ev]; done) | (simp only [bIf_rec, pIf_rec, bNot_rec, hb, hi, hp, Int.ofNat_eq_natCast]; done) | (simp [bIf_rec, pIf_rec, bNot_rec, hb, hi, hp, Int.ofNat_eq_natCast, oConds, strip, St.ev]; (repeat' apply And.intro) <;> first | exact Int.NonNeg.mk _ | omega))
    all_goals (conv => arg 4; cbv)
    all_goals split
    all_goals rename_i h
    all_goals try (exfalso; simp only [bIf_rec, pIf_rec, bNot_rec, hb, hi, hp, Int.ofNat_eq_natCast] at h; simp at h; done)
    all_goals simp only [h]
    all_goals (conv => arg 4; cbv)
    all_goals clear h
    all_goals repeat' first
      | (refine meanE_id ?_; conv => arg 4; cbv)
      | (refine meanE_elem hω _ hk0 hrk hcl ?_ ?_; rotate_left 1; rw [hcw]; conv => arg 4; cbv; simp only [epc])
      | (refine meanE_elem hω _ (Int.le_refl 0) hcons rfl ?_ ?_; rotate_left 1; conv => arg 4; cbv)
      | (refine meanE_callQ hω (hcode.any (by simp [undL, AV.und, agg, iV]) (by simp [AV.und, iV]) _) ?_ ?_)
      | (refine meanE_call hω (hwk.any (by simp [undL]) (by simp [AV.und, bV]) _) ?_ ?_)
      | (refine meanE_fin hω _ (by (conv => lhs; cbv); all_goals rfl) ⟨rfl, rfl⟩ ?_ (fun e he => by cases he) ?_ ?_)
      | (split <;> rename_i h3 <;> (first | (exfalso; simp [bIf_rec, pIf_rec, bNot_rec, hb, hi, hp, Int.ofNat_eq_natCast, condF, condT, hl39, hl40] at h3; done) | (exfalso; simp [bIf_rec, pIf_rec, bNot_rec, hb, hi, hp, Int.ofNat_eq_natCast, condF, condT, hl39, hl40] at h3; omega) | (exfalso; simp [bIf_rec, pIf_rec, bNot_rec, hb, hi, hp, Int.ofNat_eq_natCast, condF, condT, hl40] at h3; done) | (simp only [h3]; conv => arg 4; cbv) | (conv => arg 4; cbv)))
    all_goals try (first | rfl | trivial)
    all_goals try (first | (simp [bIf_rec, pIf_rec, bNot_rec, hb, hi, hp, Int.ofNat_eq_natCast, oConds, strip, St.ev]; done) | (simp only [bIf_rec, pIf_rec, bNot_rec, hb, hi, hp, Int.ofNat_eq_natCast]; done) | (simp [bIf_rec, pIf_rec, bNot_rec, hb, hi, hp, Int.ofNat_eq_natCast, oConds, strip, St.ev]; (repeat' apply And.intro) <;> first | exact Int.NonNeg.mk _ | omega))
end Go.Den.Z
