/-
  Part of the proof that FramesBeginAtTheCore returns true: the walk by computation, loops, closed calls.
  No condition.
-/
import Derived.Test.YtkimkplgmifckaaA1
set_option linter.unusedSimpArgs false
set_option linter.unusedVariables false
namespace Go.Den
section
variable {P : Program} {own : Nat} {late : Bool}

/-! ### A region whose order is open -/
/-- Nothing that was there has changed. -/
structure Ext0 (w w' : World) : Prop where
  os : w'.os = w.os
  tape : w'.tape = w.tape
  output : w'.output = w.output
  size : w.heap.size ≤ w'.heap.size
  same : Same w w'
  frz : ∀ a, w'.frozen? a = w.frozen? a

theorem ext_nxt {C : Cx} {w' : World} (h : Ext0 C.w w') : Nxt C { C with w := w' } where
  os := h.os
  tape := h.tape
  output := h.output
  size := h.size
  rd := fun a v hr => by
    have hc := h.same.cell (Cx.rd_cell hr)
    have hlt := Cx.rd_lt hr
    show (if a.off < C.S a.block then w'.cell? a else none) = some v
    rw [if_pos hlt]; exact hc
  len := Nat.le_refl _
  mem := fun _ _ rows h _ => ⟨rows, h, rfl, rfl⟩
  grow := fun _ _ _ rows h _ => ⟨rows, [], h, by simp, fun _ => rfl⟩
  frame := fun k hk _ => ⟨h.same k hk, rfl⟩
  frz := h.frz
  own := fun b e _ h hk => .inr ⟨e, h, hk⟩
theorem ext_hrel {C : Cx} {w' : World} (h : Ext0 C.w w') (hH : HRel C) : HRel { C with w := w' } where
  ent := fun b e hb => (hH.ent b e hb).keep (ext_nxt h) rfl fun k hk => ⟨h.same k ((hH.ent b e hb).block hk), rfl⟩
  inj := hH.inj

mutual
theorem und_rel {C C' : Cx} {n : Nat} (hrd : ∀ a v, C.rd a = some v → C'.rd a = some v) (hH : ∀ b, b < n → C'.H[b]? = C.H[b]?) (hβ : ∀ b, b < n → C'.β b = C.β b) : ∀ {x : AV} {v : Value}, x.und n → Rel C x v → Rel C' x v
  | .c _, _, _, h => RelC.mono hrd h
  | .z0, _, _, h => h
  | .gs b k, _, hu, h => by
    obtain ⟨sz, e, rows, h1, h2, h3, h4⟩ := h
    exact ⟨sz, e, rows, (hH b hu).trans h1, h2, RelC.mono hrd h3, fun h => (h4 h).trans (hβ b hu).symm⟩
  | .op b i off, _, hu, h => by
    obtain ⟨sz, rows, k, h1, h2, h3⟩ := h
    exact ⟨sz, rows, k, (hH b hu).trans h1, (hβ b hu).trans h2, h3⟩
  | .rp rows i off, _, _, h => by
    obtain ⟨a, cap, sz, h1, h2, h3⟩ := h
    exact ⟨a, cap, sz, RelC.mono hrd h1, h2, h3⟩
  | .os b lo len, _, hu, h => by
    obtain ⟨sz, rows, k, cap, h1, h2, h3⟩ := h
    exact ⟨sz, rows, k, cap, (hH b hu).trans h1, (hβ b hu).trans h2, h3⟩
  | .ag cs, _, hu, h => by
    obtain ⟨vs, e, hl⟩ := h
    exact ⟨vs, e, undL_rel hrd hH hβ hu hl⟩
  | .tu cs, _, hu, h => by
    obtain ⟨vs, e, hl⟩ := h
    exact ⟨vs, e, undL_rel hrd hH hβ hu hl⟩
  | .fn f cs, _, hu, h => by
    obtain ⟨vs, e, hl⟩ := h
    exact ⟨vs, e, undL_rel hrd hH hβ hu hl⟩
  | .when g x, _, hu, h => ⟨fun hg => und_rel hrd hH hβ (hu hg) (h.1 hg), h.2⟩
  | .any, _, _, _ => trivial
theorem undL_rel {C C' : Cx} {n : Nat} (hrd : ∀ a v, C.rd a = some v → C'.rd a = some v) (hH : ∀ b, b < n → C'.H[b]? = C.H[b]?) (hβ : ∀ b, b < n → C'.β b = C.β b) : ∀ {xs : List AV} {vs : List Value}, undL n xs → RelL C xs vs → RelL C' xs vs
  | [], [], _, _ => trivial
  | _ :: _, _ :: _, hu, h => ⟨und_rel hrd hH hβ hu.1 h.1, undL_rel hrd hH hβ hu.2 h.2⟩
  | [], _ :: _, _, h => h.elim
  | _ :: _, [], _, h => h.elim
end

theorem mapM_len {α β : Type} {f : α → Option β} : ∀ (xs : List α) (ys : List β), xs.mapM f = some ys → ys.length = xs.length
  | [], ys, h => by simp at h; subst h; rfl
  | x :: xs, ys, h => by
    rw [List.mapM_cons] at h
    simp only [Option.bind_eq_bind, Option.bind_eq_some_iff, Option.pure_def, Option.some.injEq] at h
    obtain ⟨c, _, r, hr, rfl⟩ := h
    simp [mapM_len xs r hr]
theorem range_mapM {α β : Type} (f : α → Option β) : ∀ (xs pre : List α), (List.range' pre.length xs.length).mapM (fun i => ((pre ++ xs)[i]?).bind f) = xs.mapM f
  | [], pre => rfl
  | x :: xs, pre => by
    have h := range_mapM f xs (pre ++ [x])
    simp only [List.length_append, List.length_cons, List.length_nil, Nat.zero_add, List.append_assoc, List.cons_append, List.nil_append] at h
    rw [List.length_cons, List.range'_succ, List.mapM_cons, List.mapM_cons, h]
    simp
theorem ops_mapM {β : Type} (ops : Array Oper) (f : Oper → Option β) : (List.range ops.size).mapM (fun i => (ops[i]?).bind f) = ops.toList.mapM f := by
  have h := range_mapM f ops.toList []
  simpa [List.range_eq_range'] using h

theorem le_rel {C C' : Cx} {n : Nat} (hrd : C'.rd = C.rd) (hH : ∀ b, b < n → C'.H[b]? = C.H[b]?) (hβ : C'.β = C.β) (hh : HRel C) {lk : Nat → Option Ent} (hlk : ∀ b, lk b = C.H[b]?) {x y : AV} {v : Value} (hle : Le lk n x y) (h : Rel C x v) : Rel C' y v := by
  rcases hle with rfl | ⟨rfl, hu⟩ | ⟨rows, hr, rfl, hno⟩
  · trivial
  · exact und_rel (fun a v h => by rw [hrd]; exact h) hH (fun b _ => by rw [hβ]) hu h
  · obtain ⟨ad, cap, rfl, hrel⟩ := rowsOf_slice hh hlk h hr hno
    show RelC C'.rd _ _
    rw [hrd]; exact hrel
theorem leL_rel {C C' : Cx} {n : Nat} (hrd : C'.rd = C.rd) (hH : ∀ b, b < n → C'.H[b]? = C.H[b]?) (hβ : C'.β = C.β) (hh : HRel C) {lk : Nat → Option Ent} (hlk : ∀ b, lk b = C.H[b]?) : ∀ {xs ys : List AV} {vs : List Value}, LeL lk n xs ys → RelL C xs vs → RelL C' ys vs
  | [], [], [], _, _ => trivial
  | _ :: _, _ :: _, _ :: _, hl, h => ⟨le_rel hrd hH hβ hh hlk hl.1 h.1, leL_rel hrd hH hβ hh hlk hl.2 h.2⟩
  | [], _ :: _, _, hl, _ => hl.elim
  | _ :: _, [], _, hl, _ => hl.elim
  | [], [], _ :: _, _, h => h.elim
  | _ :: _, _ :: _, [], _, h => h.elim

theorem ent_und {C C' : Cx} {n b : Nat} {e : Ent} (hw : C'.w = C.w) (hS : C'.S = C.S) (hβ : C'.β = C.β) (hH : ∀ b, b < n → C'.H[b]? = C.H[b]?) (hu : e.und n) (h : EntOk C b e) : EntOk C' b e := by
  have hrd : C'.rd = C.rd := by funext a; simp only [Cx.rd, hw, hS]
  cases e with
  | grow sz ty rows =>
    obtain ⟨xs, h0, h1, h2, h3, h4⟩ := h
    exact ⟨xs, h0, by rw [hw, hβ]; exact h1, by rw [hβ, hS]; exact h2, h3, by rw [hrd]; exact h4⟩
  | mem sz rows =>
    obtain ⟨k, ty, cs, h1, h2, h3, h4, h5, h6⟩ := h
    refine ⟨k, ty, cs, by rw [hβ]; exact h1, by rw [hw]; exact h2, by rw [hS]; exact h3, h4, h5, fun i j row a hi hj => ?_⟩
    obtain ⟨v, hv, hr⟩ := h6 i j row a hi hj
    have hua : a.und n := by
      have hrow := hu row (List.mem_of_getElem? hi)
      clear hr hv hi
      induction row generalizing j with
      | nil => simp at hj
      | cons x row ih =>
        cases j with
        | zero => simp only [List.getElem?_cons_zero, Option.some.injEq] at hj; subst hj; exact hrow.1
        | succ j => exact ih j (by simpa using hj) hrow.2
    exact ⟨v, hv, und_rel (fun a v h => by rw [hrd]; exact h) hH (fun b _ => by rw [hβ]) hua hr⟩

theorem weak_sound {C0 C : Cx} {a : Act} {s s' : St} (hw : Weak s s') (hn : Nxt C0 C) (hB : s.B.length = C0.H.length) (hs : StRel C a s) : ∃ C', C'.w = C.w ∧ Nxt C0 C' ∧ StRel C' a s' := by
  let C' : Cx := { C with H := s'.B ++ s'.L }
  have hget : ∀ b, b < s.B.length + s'.L.length → C'.H[b]? = C.H[b]? := fun b hb => by
    show (s'.B ++ s'.L)[b]? = C.H[b]?
    rw [hs.h, hw.B]
    by_cases h : b < s.B.length
    · rw [List.getElem?_append_left h, List.getElem?_append_left h]
    · rw [List.getElem?_append_right (by omega), List.getElem?_append_right (by omega), hw.L]
      rw [List.getElem?_take_of_lt (by omega)]
  have hlt : ∀ b e, C'.H[b]? = some e → b < s.B.length + s'.L.length := fun b e h => by
    have := lt_of_get h
    have h2 : C'.H.length = s'.B.length + s'.L.length := by show (s'.B ++ s'.L).length = _; simp
    rw [h2, hw.B] at this; exact this
  refine ⟨C', rfl, ⟨hn.os, hn.tape, hn.output, hn.size, hn.rd, ?_, fun b sz rows h hb => ?_, fun b sz e rows h hb => ?_, hn.frame, hn.frz, fun b e k h hk => ?_⟩, ⟨rfl, ⟨fun b e h => ?_, fun b b' e e' k hne h h' => ?_⟩, ?_, hs.d⟩⟩
  · show _ ≤ (s'.B ++ s'.L).length
    simp [hw.B, hB]
  · exact hn.mem b sz rows (by rw [← hget b (hlt b _ h)]; exact h) hb
  · exact hn.grow b sz e rows (by rw [← hget b (hlt b _ h)]; exact h) hb
  · exact hn.own b e k (by rw [← hget b (hlt b _ h)]; exact h) hk
  · have hC : C.H[b]? = some e := by rw [← hget b (hlt b _ h)]; exact h
    exact ent_und (C := C) (C' := C') rfl rfl rfl hget (hw.e e (List.mem_of_getElem? h)) (hs.hh.ent b e hC)
  · exact hs.hh.inj b b' e e' k hne (by rw [← hget b (hlt b _ h)]; exact h) (by rw [← hget b' (hlt b' _ h')]; exact h')
  · exact leL_rel (C := C) (C' := C') rfl hget rfl hs.hh (rowsOf_look hs.h) hw.t hs.t

/-! ### Blocks that tell no more -/
def LeH (C C' : Cx) : Prop := ∀ (b : Nat) e, C.H[b]? = some e → ∃ e', C'.H[b]? = some e' ∧ LeE e e'
mutual
theorem leH_rel {C C' : Cx} (hrd : C'.rd = C.rd) (hH : LeH C C') (hβ : C'.β = C.β) : ∀ {x : AV} {v : Value}, Rel C x v → Rel C' x v
  | .c _, _, h => by show RelC C'.rd _ _; rw [hrd]; exact h
  | .z0, _, h => h
  | .gs b k, _, h => by
    obtain ⟨sz, e, rows, h1, h2, h3, h4⟩ := h
    obtain ⟨e', g1, g2⟩ := hH b _ h1
    rcases g2 with rfl | ⟨_, _, _, g3, _⟩
    · exact ⟨sz, e, rows, g1, h2, by rw [hrd]; exact h3, fun h => (h4 h).trans (by rw [hβ])⟩
    · cases g3
  | .op b i off, _, h => by
    obtain ⟨sz, rows, k, h1, h2, h3⟩ := h
    obtain ⟨e', g1, g2⟩ := hH b _ h1
    rcases g2 with rfl | ⟨_, _, rows', g3, rfl, _⟩
    · exact ⟨sz, rows, k, g1, by rw [hβ]; exact h2, h3⟩
    · cases g3
      exact ⟨sz, rows', k, g1, by rw [hβ]; exact h2, h3⟩
  | .rp rows i off, _, h => by
    obtain ⟨a, cap, sz, h1, h2, h3⟩ := h
    exact ⟨a, cap, sz, by rw [hrd]; exact h1, h2, h3⟩
  | .os b lo len, _, h => by
    obtain ⟨sz, rows, k, cap, h1, h2, h3, h4, h5⟩ := h
    obtain ⟨e', g1, g2⟩ := hH b _ h1
    rcases g2 with rfl | ⟨_, _, rows', g3, rfl, g4, _⟩
    · exact ⟨sz, rows, k, cap, g1, by rw [hβ]; exact h2, h3, h4, h5⟩
    · cases g3
      exact ⟨sz, rows', k, cap, g1, by rw [hβ]; exact h2, h3, by omega, h5⟩
  | .ag cs, _, h => by
    obtain ⟨vs, e, hl⟩ := h
    exact ⟨vs, e, leHL_rel hrd hH hβ hl⟩
  | .tu cs, _, h => by
    obtain ⟨vs, e, hl⟩ := h
    exact ⟨vs, e, leHL_rel hrd hH hβ hl⟩
  | .fn f cs, _, h => by
    obtain ⟨vs, e, hl⟩ := h
    exact ⟨vs, e, leHL_rel hrd hH hβ hl⟩
  | .when g x, _, h => ⟨fun hg => leH_rel hrd hH hβ (h.1 hg), h.2⟩
  | .any, _, _ => trivial
theorem leHL_rel {C C' : Cx} (hrd : C'.rd = C.rd) (hH : LeH C C') (hβ : C'.β = C.β) : ∀ {xs : List AV} {vs : List Value}, RelL C xs vs → RelL C' xs vs
  | [], [], _ => trivial
  | _ :: _, _ :: _, h => ⟨leH_rel hrd hH hβ h.1, leHL_rel hrd hH hβ h.2⟩
  | [], _ :: _, h => h.elim
  | _ :: _, [], h => h.elim
end
theorem leE_ent {C C' : Cx} {b : Nat} {e e' : Ent} (hw : C'.w = C.w) (hS : C'.S = C.S) (hβ : C'.β = C.β) (hH : LeH C C') (hle : LeE e e') (h : EntOk C b e) : EntOk C' b e' := by
  have hrd : C'.rd = C.rd := by funext a; simp only [Cx.rd, hw, hS]
  rcases hle with rfl | ⟨sz, rows, rows', rfl, rfl, hl, hr⟩
  · cases e' with
    | grow sz ty rows =>
      obtain ⟨xs, h0, h1, h2, h3, h4⟩ := h
      exact ⟨xs, h0, by rw [hw, hβ]; exact h1, by rw [hβ, hS]; exact h2, h3, by rw [hrd]; exact h4⟩
    | mem sz rows =>
      obtain ⟨k, ty, cs, h1, h2, h3, h4, h5, h6⟩ := h
      refine ⟨k, ty, cs, by rw [hβ]; exact h1, by rw [hw]; exact h2, by rw [hS]; exact h3, h4, h5, fun i j row a hi hj => ?_⟩
      obtain ⟨v, hv, hr⟩ := h6 i j row a hi hj
      exact ⟨v, hv, leH_rel hrd hH hβ hr⟩
  · obtain ⟨k, ty, cs, h1, h2, h3, h4, h5, h6⟩ := h
    refine ⟨k, ty, cs, by rw [hβ]; exact h1, by rw [hw]; exact h2, by rw [hS]; exact h3, by rw [hl]; exact h4, fun i row' hi => ?_, fun i j row' a hi hj => ?_⟩
    · obtain ⟨row, g1, g2, _⟩ := hr i row' hi
      rw [g2]; exact h5 i row g1
    · obtain ⟨row, g1, g2, g3⟩ := hr i row' hi
      have hj' : j < row.length := by have := (List.getElem?_eq_some_iff.1 hj).1; omega
      have ha : row[j]? = some row[j] := by simp [hj']
      obtain ⟨v, hv, hrel⟩ := h6 i j row _ g1 ha
      refine ⟨v, hv, ?_⟩
      rcases g3 j a hj with rfl | g4
      · trivial
      · rw [ha] at g4; cases g4
        exact leH_rel hrd hH hβ hrel
theorem weak2_sound {C0 C : Cx} {a : Act} {s s' : St} (hw : Weak2 s s') (hn : Nxt C0 C) (hB : s.B.length = C0.H.length) (hs : StRel C a s) : ∃ C', C'.w = C.w ∧ Nxt C0 C' ∧ StRel C' a s' := by
  let C' : Cx := { C with H := s'.B ++ s'.L }
  have hlow : ∀ b, b < s.B.length → C'.H[b]? = C.H[b]? := fun b hb => by
    show (s'.B ++ s'.L)[b]? = C.H[b]?
    rw [hs.h, hw.B, List.getElem?_append_left hb, List.getElem?_append_left hb]
  have hle : LeH C C' := fun b e he => by
    by_cases hb : b < s.B.length
    · exact ⟨e, (hlow b hb).trans he, .inl rfl⟩
    · rw [hs.h, List.getElem?_append_right (by omega)] at he
      have hlt := lt_of_get he
      have : C'.H[b]? = s'.L[b - s.B.length]? := by
        show (s'.B ++ s'.L)[b]? = _
        rw [hw.B, List.getElem?_append_right (by omega)]
      have hlt2 : b - s.B.length < s'.L.length := by rw [hw.len]; exact hlt
      have h2 : s'.L[b - s.B.length]? = some s'.L[b - s.B.length] := List.getElem?_eq_getElem hlt2
      exact ⟨_, this.trans h2, hw.L _ _ _ he h2⟩
  have hback : ∀ b e', C'.H[b]? = some e' → ∃ e, C.H[b]? = some e ∧ LeE e e' := fun b e' he => by
    have hlt := lt_of_get he
    have hl : C'.H.length = C.H.length := by
      show (s'.B ++ s'.L).length = _
      rw [hs.h]; simp [hw.B, hw.len]
    have hlt3 : b < C.H.length := by omega
    have h1 : C.H[b]? = some C.H[b] := List.getElem?_eq_getElem hlt3
    obtain ⟨e2, g1, g2⟩ := hle b _ h1
    rw [he] at g1; cases g1
    exact ⟨_, h1, g2⟩
  have hrd : C'.rd = C.rd := rfl
  refine ⟨C', rfl, ⟨hn.os, hn.tape, hn.output, hn.size, hn.rd, ?_, fun b sz rows h hb => ?_, fun b sz e rows h hb => ?_, hn.frame, hn.frz, fun b e k h hk => ?_⟩, ⟨rfl, ⟨fun b e h => ?_, fun b b' e e' k hne h h' => ?_⟩, ?_, hs.d⟩⟩
  · show _ ≤ (s'.B ++ s'.L).length
    simp [hw.B, hB]
  · exact hn.mem b sz rows (by rw [← hlow b (by omega)]; exact h) hb
  · exact hn.grow b sz e rows (by rw [← hlow b (by omega)]; exact h) hb
  · obtain ⟨e0, g1, _⟩ := hback b e h
    exact hn.own b e0 k g1 hk
  · obtain ⟨e0, g1, g2⟩ := hback b e h
    exact leE_ent (C := C) (C' := C') rfl rfl rfl hle g2 (hs.hh.ent b e0 g1)
  · obtain ⟨e0, g1, _⟩ := hback b e h
    obtain ⟨e1, g2, _⟩ := hback b' e' h'
    exact hs.hh.inj b b' e0 e1 k hne g1 g2
  · rw [hw.t]; exact leHL_rel hrd hle rfl hs.t
theorem weakE_B {s s' : St} (hw : WeakE s s') : s'.B = s.B := by
  rcases hw with rfl | ⟨m, h1, h2⟩
  · rfl
  · rw [h2.B, h1.B]
theorem weakE_sound {C0 C : Cx} {a : Act} {s s' : St} (hw : WeakE s s') (hn : Nxt C0 C) (hB : s.B.length = C0.H.length) (hs : StRel C a s) : ∃ C', C'.w = C.w ∧ Nxt C0 C' ∧ StRel C' a s' := by
  rcases hw with rfl | ⟨m, h1, h2⟩
  · exact ⟨C, rfl, hn, hs⟩
  · obtain ⟨C1, e1, hn1, hs1⟩ := weak2_sound h1 hn hB hs
    obtain ⟨C2, e2, hn2, hs2⟩ := weak_sound h2 hn1 (by rw [h1.B]; exact hB) hs1
    exact ⟨C2, e2.trans e1, hn2, hs2⟩

theorem awp_sound (hm : P.follows .mixedOrders = true) {C0 : Cx} : ∀ (c : Code) (ac : ACode) (hc : compile P own late c = some ac) (Q : AX → St → Prop) (s : St) (C : Cx) (a : Act) (Q' : Exit → Act → World → Prop), awp P ac Q s → Nxt C0 C → s.B.length = C0.H.length → StRel C a s →
    (∀ C' a' e s', Nxt C0 C' → s'.B.length = C0.H.length → StRel C' a' s' → Q e s' → Q' e.toExit a' C'.w) → c.wp P Q' a C.w
  | .skip, ac, hc, Q, s, C, a, Q', h, hn, hB, hs, hQ => by
    simp only [compile, Option.some.injEq] at hc
    subst hc
    exact wp_skip (hQ C a .nrm s hn hB hs h)
  | .exit id, ac, hc, Q, s, C, a, Q', h, hn, hB, hs, hQ => by
    simp only [compile, Option.some.injEq] at hc
    subst hc
    exact wp_exit (hQ C a (.exit id) s hn hB hs h)
  | .ret, ac, hc, Q, s, C, a, Q', h, hn, hB, hs, hQ => by
    simp only [compile, Option.some.injEq] at hc
    subst hc
    exact wp_ret (hQ C a .ret s hn hB hs h)
  | .region id ops draw, ac, hc, Q, s, C, a, Q', h, hn, hB, hs, hQ => by
    simp only [compile, Option.bind_eq_some_iff] at hc
    obtain ⟨l, hl, hc⟩ := hc
    let C1 : Cx := { C with w := { C.w with drawn := C.w.drawn + 1 } }
    have he : Ext0 C.w C1.w := ⟨rfl, rfl, rfl, Nat.le_refl _, fun _ _ => rfl, fun _ => rfl⟩
    cases draw
    · simp only [Bool.false_eq_true, if_false, Option.some.injEq] at hc
      subst hc
      simp only [awp, Bool.false_eq_true, if_false] at h
      refine wp_region ?_
      exact flat_sound (own := own) (List.range ops.size) l s _ C a (by rw [ops_mapM]; exact hl) (flat_of_items l s _ h) hs fun C' a' s' hn' hB' hs' hq => hQ C' a' .nrm s' (hn.trans hn') (hB'.trans hB) hs' hq
    · simp only [if_true, Option.map_eq_some_iff] at hc
      obtain ⟨n, hcut, hc⟩ := hc
      have hB' : regAB ops l n = true := by
        have key : ∀ m, (if regAB ops l m = true then some m else if regAB ops l (headLen l) = true then some (headLen l) else none) = some n → regAB ops l n = true := fun m h => by
          by_cases h1 : regAB ops l m = true
          · rw [if_pos h1] at h; cases h; exact h1
          · rw [if_neg h1] at h
            by_cases h2 : regAB ops l (headLen l) = true
            · rw [if_pos h2] at h; cases h; exact h2
            · rw [if_neg h2] at h; cases h
        exact key _ hcut
      obtain ⟨hlen, hat⟩ := mapM_at hl
      have hn' : n ≤ ops.size := by
        simp only [regAB, Bool.and_eq_true, decide_eq_true_eq] at hB'
        exact hB'.1.1.1
      split at hc
      · rename_i hnl
        subst hc
        simp only [awp, if_true, aItemsQ] at h
        refine wp_regX (own := own) hm hl hB' (K := Q .nrm) h.1 ?_ hs fun C' a' s' hn2 hB2 hs' hq => ?_
        · rw [hnl, List.take_length]; exact flatX_of_items l s _ h.2
        · rw [List.drop_of_length_le (by rw [hnl, hlen]; simp)]
          exact hQ C' a' .nrm s' (hn.trans hn2) (hB2.trans hB) hs' hq
      · subst hc
        simp only [awp, if_true, Bool.false_eq_true, if_false, aItemsQ] at h
        refine wp_regX (own := own) hm hl hB' (K := _) h.1 (flatX_of_items _ s _ h.2) hs fun C' a' s' hn2 hB2 hs' hq => ?_
        have := flat_sound (own := own) (ops := ops) (Q := Q') (List.range' n (ops.toList.drop n).length) (l.drop n) s' _ C' a' ?_ (flat_of_items _ s' _ hq) hs' fun C2 a2 s2 hn3 hB3 hs3 hq2 => hQ C2 a2 .nrm s2 ((hn.trans hn2).trans hn3) ((hB3.trans hB2).trans hB) hs3 hq2
        · rw [wpOps_eq_wpList (ops.toList.drop n) n (fun j => by simp)] at this
          exact this
        · have hrm := range_mapM (cOper P own ops) (ops.toList.drop n) (ops.toList.take n)
          have hlt : (ops.toList.take n).length = n := by simp; omega
          rw [hlt, List.take_append_drop] at hrm
          have e : (fun i => (ops.toList[i]?).bind (cOper P own ops)) = fun i => (ops[i]?).bind (cOper P own ops) := funext fun i => by rw [Array.getElem?_toList]
          rw [e] at hrm
          rw [hrm]
          have hm1 := hl
          rw [← List.take_append_drop n ops.toList, List.mapM_append] at hm1
          simp only [Option.bind_eq_bind, Option.bind_eq_some_iff, Option.pure_def, Option.some.injEq] at hm1
          obtain ⟨l1, h1, l2, h2, h12⟩ := hm1
          have hl1 : l1.length = n := by
            rw [(mapM_len _ _ h1), hlt]
          have : l2 = l.drop n := by rw [← h12, ← hl1]; simp
          rw [← this]; exact h2
  | .seq x y, ac, hc, Q, s, C, a, Q', h, hn, hB, hs, hQ => by
    simp only [compile, Option.bind_eq_bind, Option.bind_eq_some_iff, Option.some.injEq] at hc
    obtain ⟨ax, hx, ay, hy, rfl⟩ := hc
    refine wp_seq (awp_sound hm x ax hx _ s C a _ h hn hB hs fun C' a' e s' hn' hB' hs' hq => ?_)
    cases e with
    | nrm => exact awp_sound hm y ay hy Q s' C' a' Q' hq hn' hB' hs' hQ
    | exit id => exact hQ C' a' (.exit id) s' hn' hB' hs' hq
    | ret => exact hQ C' a' .ret s' hn' hB' hs' hq
  | .cond c x y, ac, hc, Q, s, C, a, Q', h, hn, hB, hs, hQ => by
    simp only [compile, Option.bind_eq_bind, Option.bind_eq_some_iff, Option.some.injEq] at hc
    obtain ⟨c', hc', ax, hx, ay, hy, rfl⟩ := hc
    obtain ⟨b, hb, h1, h2⟩ := h
    have hv := hs.ev hc'
    rw [hb] at hv
    refine wp_cond_split hv.scv (fun ht => ?_) fun hf => ?_
    · exact awp_sound hm x ax hx Q s C a Q' (h1 ht) hn hB hs hQ
    · exact awp_sound hm y ay hy Q s C a Q' (h2 hf) hn hB hs hQ
  | .block id x, ac, hc, Q, s, C, a, Q', h, hn, hB, hs, hQ => by
    simp only [compile, Option.bind_eq_bind, Option.bind_eq_some_iff, Option.some.injEq] at hc
    obtain ⟨ax, hx, rfl⟩ := hc
    refine wp_block (awp_sound hm x ax hx _ s C a _ h hn hB hs fun C' a' e s' hn' hB' hs' hq => ?_)
    cases e with
    | nrm => exact hQ C' a' .nrm s' hn' hB' hs' hq
    | exit i =>
      show Exit.inBlock id Q' (.exit i) a' C'.w
      simp only [Exit.inBlock]
      by_cases hi : i = id
      · rw [if_pos hi]
        simp only [hi, if_true] at hq
        exact hQ C' a' .nrm s' hn' hB' hs' hq
      · rw [if_neg hi]
        simp only [hi, if_false] at hq
        exact hQ C' a' (.exit i) s' hn' hB' hs' hq
    | ret => exact hQ C' a' .ret s' hn' hB' hs' hq
  | .loop x, ac, hc, Q, s, C, a, Q', h, hn, hB, hs, hQ => by
    simp only [compile, Option.bind_eq_bind, Option.bind_eq_some_iff, Option.some.injEq] at hc
    obtain ⟨ax, hx, rfl⟩ := hc
    obtain ⟨I, ⟨n0, s0, hwk0, h0⟩, hround⟩ := h
    obtain ⟨C00, hw0, hn0, hs0⟩ := weakE_sound hwk0 hn hB hs
    refine wp_loop_ghost (fun n a w => ∃ C' s', C'.w = w ∧ Nxt C0 C' ∧ s'.B.length = C0.H.length ∧ StRel C' a s' ∧ I n s') n0 ⟨C00, s0, hw0, hn0, by rw [weakE_B hwk0]; exact hB, hs0, h0⟩ ?_
    rintro n a1 w ⟨C1, s1, rfl, hn1, hB1, hs1, hI⟩
    refine awp_sound hm x ax hx _ s1 C1 a1 _ (hround n s1 hI) hn1 hB1 hs1 fun C' a' e s' hn' hB' hs' hq => ?_
    cases e with
    | nrm =>
      obtain ⟨m, s2, hlt, hwk, hI'⟩ := hq
      obtain ⟨C2, hw2, hn2, hs2⟩ := weakE_sound hwk hn' hB' hs'
      exact ⟨m, hlt, C2, s2, hw2, hn2, by rw [weakE_B hwk]; exact hB', hs2, hI'⟩
    | exit id => exact hQ C' a' (.exit id) s' hn' hB' hs' hq
    | ret => exact hQ C' a' .ret s' hn' hB' hs' hq
  | .rangeFunc .., ac, hc, _, _, _, _, _, _, _, _, _, _ => by simp [compile] at hc
  | .scope _, ac, hc, _, _, _, _, _, _, _, _, _, _ => by simp [compile] at hc
  | .label _, ac, hc, _, _, _, _, _, _, _, _, _, _ => by simp [compile] at hc
  | .goto _, ac, hc, _, _, _, _, _, _, _, _, _, _ => by simp [compile] at hc
  | .refuse _, ac, hc, _, _, _, _, _, _, _, _, _, _ => by simp [compile] at hc

/-! ### Functions -/
inductive RV where
  | tmp (t : Nat)
  | one (t : Nat)
  | many (t n : Nat)
def cRes (P : Program) : List ResultVar → Option (List RV)
  | [] => some []
  | .tmp t :: r => (cRes P r).map fun l => .tmp t :: l
  | .cell t ty :: r => (cRes P r).bind fun l =>
    match P.underlying ty, P.info? ty with
    | some (.struct _), some i | some (.array _ _), some i => some (.many t i.size :: l)
    | some _, some _ => some (.one t :: l)
    | _, _ => none
/-- What is returned. -/
def aRes (s : St) : List RV → Option (Prop × List AV)
  | [] => some (True, [])
  | .tmp t :: r => (aRes s r).map fun x => (x.1, s.t.getD t .any :: x.2)
  | .one t :: r => (aPure (.ldc (.tmp t)) s.ev s.look).bind fun (y : Prop × AV) => (aRes s r).map fun (x : Prop × List AV) => (y.1 ∧ x.1, y.2 :: x.2)
  | .many t n :: r => (aPure (.lda n (.tmp t)) s.ev s.look).bind fun (y : Prop × AV) => (aRes s r).map fun (x : Prop × List AV) => (y.1 ∧ x.1, y.2 :: x.2)
def resOf : List AV → AV
  | [x] => x
  | l => .tu l

theorem load_looks {C : Cx} {a : Act} {s : St} (h : StRel C a s) {t : Nat} {ty : TypeId} {m : MOp} (hm : cOp P 0 { (default : Oper) with op := .load ty (.tmp t) } = some m) {p : Prop} {av : AV} (hp : aPure m s.ev s.look = some (p, av)) (hpre : p) :
    ∃ v, Rel C av v ∧ (do loadVar ty (← asAddr (a.tmps.getD t undef)) : Sem Value).run P C.w = .ok v C.w := by
  obtain ⟨v, hr, hrun⟩ := aPure_looks (own := 0) (a := a) h.hh hm (rowsOf_look h.h) (fun x y hxy hy => h.ev hxy) hp hpre
  refine ⟨v, hr, ?_⟩
  have := hrun C.w (Same.refl _)
  simp only [execOp, Sem.run_bind, Instr.loadAt, Act.eval] at this
  cases hv : a.tmps.getD t undef <;> simp only [hv] at this ⊢
  case pointer ad =>
    cases ad with
    | none => simp [Instr.sureAddr, stuck, Result.andThen, Sem.run] at this
    | some ad =>
      simp only [Instr.sureAddr, asAddr, Sem.run_bind, Sem.run_pure, Result.andThen] at this ⊢
      cases hl : (loadVar ty ad).run P C.w with
      | ok u w' => rw [hl] at this; simp only [Sem.run_pure, Result.ok.injEq, Next.value.injEq] at this; obtain ⟨rfl, rfl⟩ := this; rfl
      | halt _ _ => rw [hl] at this; cases this
  all_goals simp [Instr.sureAddr, stuck, Result.andThen, Sem.run] at this

theorem res_sound {C : Cx} {a : Act} {s : St} (h : StRel C a s) : ∀ (rs : List ResultVar) (rvs : List RV) (p : Prop) (avs : List AV), cRes P rs = some rvs → aRes s rvs = some (p, avs) → p →
    ∃ vs, RelL C avs vs ∧ (rs.mapM fun
      | .tmp t => pure (a.tmps.getD t undef)
      | .cell b t => do loadVar t (← asAddr (a.tmps.getD b undef)) : Sem (List Value)).run P C.w = .ok vs C.w
  | [], rvs, p, avs, hc, ha, hp => by
    simp only [cRes, Option.some.injEq] at hc
    subst hc
    simp only [aRes, Option.some.injEq, Prod.mk.injEq] at ha
    obtain ⟨_, rfl⟩ := ha
    exact ⟨[], trivial, by simp [pure]⟩
  | .tmp t :: rs, rvs, p, avs, hc, ha, hp => by
    simp only [cRes, Option.map_eq_some_iff] at hc
    obtain ⟨l, hl, rfl⟩ := hc
    simp only [aRes, Option.map_eq_some_iff, Prod.mk.injEq] at ha
    obtain ⟨⟨p', avs'⟩, ha', rfl, rfl⟩ := ha
    obtain ⟨vs, hv, hrun⟩ := res_sound h rs l p' avs' hl ha' hp
    refine ⟨a.tmps.getD t undef :: vs, ⟨h.ev (x := .tmp t) rfl, hv⟩, ?_⟩
    rw [List.mapM_cons]
    simp only [Sem.run_bind, Sem.run_pure, Result.andThen, hrun]
  | .cell t ty :: rs, rvs, p, avs, hc, ha, hp => by
    simp only [cRes, Option.bind_eq_some_iff] at hc
    obtain ⟨l, hl, hc⟩ := hc
    have key : ∀ (m : MOp) (rv : RV), rvs = rv :: l → cOp P 0 { (default : Oper) with op := .load ty (.tmp t) } = some m → (aRes s (rv :: l) = ((aPure m s.ev s.look).bind fun (y : Prop × AV) => (aRes s l).map fun (x : Prop × List AV) => (y.1 ∧ x.1, y.2 :: x.2))) →
        ∃ vs, RelL C avs vs ∧ ((ResultVar.cell t ty :: rs).mapM fun
          | .tmp t => pure (a.tmps.getD t undef)
          | .cell b t => do loadVar t (← asAddr (a.tmps.getD b undef)) : Sem (List Value)).run P C.w = .ok vs C.w := fun m rv e hm he => by
      subst e
      rw [he] at ha
      simp only [Option.bind_eq_some_iff, Option.map_eq_some_iff, Prod.mk.injEq] at ha
      obtain ⟨⟨p1, av⟩, h1, ⟨p', avs'⟩, ha', rfl, rfl⟩ := ha
      obtain ⟨v, hv, hrun⟩ := load_looks h hm h1 hp.1
      obtain ⟨vs, hvs, hrun'⟩ := res_sound h rs l p' avs' hl ha' hp.2
      refine ⟨v :: vs, ⟨hv, hvs⟩, ?_⟩
      rw [List.mapM_cons]
      rw [Sem.run_bind, hrun]
      simp only [Result.andThen, Sem.run_bind, Sem.run_pure, hrun']
    split at hc
    · rename_i fs i hu hi
      simp only [Option.some.injEq] at hc
      exact key (.lda i.size (.tmp t)) (.many t i.size) hc.symm (by simp [cOp, hu, hi, cOpd]) rfl
    · rename_i n e i hu hi
      simp only [Option.some.injEq] at hc
      exact key (.lda i.size (.tmp t)) (.many t i.size) hc.symm (by simp [cOp, hu, hi, cOpd]) rfl
    · rename_i d i h1 h2 hu hi
      simp only [Option.some.injEq] at hc
      exact key (.ldc (.tmp t)) (.one t) hc.symm (by
        cases d <;> first | exact (h1 _ rfl).elim | exact (h2 _ _ rfl).elim | simp [cOp, hu, hi, cOpd]) rfl
    · cases hc

/-! ### What a function hands back: its own last blocks are let go; what nobody stores into any more is told by its contents -/
def Fz1 (lk : Nat → Option Ent) (n : Nat) (x y : AV) : Prop := y = .any ∨ (x = y ∧ y.und n) ∨ ∃ rows, rowsOf lk x = some rows ∧ y = .c (.sl rows) ∧ ∀ b lo l, x = .os b lo l → n ≤ b
/-- A pointer to memory that nobody stores into any more. -/
def FzP (lk : Nat → Option Ent) (n : Nat) (x y : AV) : Prop := ∃ b i off sz rows rs, x = .op b i off ∧ n ≤ b ∧ lk b = some (.mem sz rows) ∧ closeRows lk rows = some rs ∧ y = .rp rs i off
def FzL (lk : Nat → Option Ent) (n : Nat) : List AV → List AV → Prop
  | [], [] => True
  | x :: xs, y :: ys => (Fz1 lk n x y ∨ FzP lk n x y) ∧ FzL lk n xs ys
  | _, _ => False
def Fz (lk : Nat → Option Ent) (n : Nat) (x y : AV) : Prop := (Fz1 lk n x y ∨ FzP lk n x y) ∨ (∃ xs ys, x = .ag xs ∧ y = .ag ys ∧ FzL lk n xs ys) ∨ ∃ f xs ys, x = .fn f xs ∧ y = .fn f ys ∧ FzL lk n xs ys
def FzR (lk : Nat → Option Ent) (n : Nat) : List AV → List AV → Prop
  | [], [] => True
  | x :: xs, y :: ys => Fz lk n x y ∧ FzR lk n xs ys
  | _, _ => False

open Classical in
noncomputable def letGo (C0 C : Cx) (B : List Ent) : Cx :=
  { C with H := B, S := fun k => if k < C0.w.heap.size ∨ (∃ b e, B[b]? = some e ∧ blockOf (C.β b) = some k) then C.S k else max (C.S k) (match C.w.heap[k]? with | some (.cells cs _ _) => cs.size | _ => 0) }

section
variable {C0 C : Cx} {B L : List Ent}
theorem letGo_S (k : Nat) : C.S k ≤ (letGo C0 C B).S k := by
  simp only [letGo]
  split
  · exact Nat.le_refl _
  · exact Nat.le_max_left _ _
theorem letGo_rd (a : Addr) (v : Value) (h : C.rd a = some v) : (letGo C0 C B).rd a = some v := by
  have h1 := Cx.rd_lt h
  have h2 := Cx.rd_cell h
  have h3 := letGo_S (C0 := C0) (C := C) (B := B) a.block
  show (if a.off < (letGo C0 C B).S a.block then C.w.cell? a else none) = some v
  rw [if_pos (by omega)]; exact h2
theorem letGo_get (hH : C.H = B ++ L) (b : Nat) (hb : b < B.length) : (letGo C0 C B).H[b]? = C.H[b]? := by
  show B[b]? = _
  rw [hH, List.getElem?_append_left hb]

theorem fz1_rel (hn : Nxt C0 C) (hH : C.H = B ++ L) (hh : HRel C) (hB : B.length = C0.H.length) {lk : Nat → Option Ent} (hlk : ∀ b, lk b = C.H[b]?) {x y : AV} {v : Value} (hf : Fz1 lk B.length x y) (h : Rel C x v) : Rel (letGo C0 C B) y v := by
  rcases hf with rfl | ⟨rfl, hu⟩ | ⟨rows, hr, rfl, hos⟩
  · trivial
  · exact und_rel letGo_rd (letGo_get hH) (fun _ _ => rfl) hu h
  · by_cases hx : ∃ b lo l, x = .os b lo l
    · obtain ⟨b, lo, len, rfl⟩ := hx
      have hbn := hos b lo len rfl
      simp only [rowsOf, hlk] at hr
      split at hr
      · rename_i sz rows' hb
        obtain ⟨k, cap, hk, rfl, hle, hcap⟩ := h.os_at hb
        obtain ⟨ty, cs, hg, hS, hsize, hsz, hcell⟩ := mem_cell hh hb hk
        obtain ⟨hlen, hcr⟩ := closeRows_get hr
        have hl : rows.length = len := by simp at hlen; omega
        subst hl
        have hget : ∀ (i : Nat) row, rows[i]? = some row → ∃ row', rows'[lo + i]? = some row' ∧ row.length = row'.length ∧ ∀ (j : Nat) c, row[j]? = some c → ∃ a, row'[j]? = some a ∧ AV.close lk a = some c := fun i row hi => by
          obtain ⟨row', h1, h2⟩ := hcr i row hi
          exact ⟨row', (take_drop_get h1).1, h2⟩
        have hblk : blockOf (C.β b) = some k := by rw [hk]; rfl
        have hknew : ¬ (k < C0.w.heap.size ∨ ∃ b2 e, B[b2]? = some e ∧ blockOf (C.β b2) = some k) := by
          rintro (h1 | ⟨b2, e, h1, h2⟩)
          · rcases hn.own b _ k hb hblk with h3 | ⟨e, h3, _⟩
            · omega
            · have := lt_of_get h3; omega
          · have hb2 := lt_of_get h1
            have h3 : C.H[b2]? = some e := by rw [hH, List.getElem?_append_left hb2]; exact h1
            exact hh.inj b2 b e _ k (by omega) h3 hb h2 hblk
        refine RelC.mk (sz := sz) hcap (fun _ => rfl) (fun i row hi => by obtain ⟨row', h1, h2, _⟩ := hget i row hi; rw [h2]; exact hsz _ _ h1) fun a i j row c ha hi hj => ?_
        cases ha
        obtain ⟨row', h1, h2, h3⟩ := hget i row hi
        obtain ⟨x, hx2, hcl⟩ := h3 j c hj
        obtain ⟨u, hu, hrel0⟩ := hcell (lo + i) j _ x h1 hx2
        have hrel := close_rel hlk hcl hrel0
        have e1 : (⟨k, lo * sz, none⟩ : Addr).add (i * sz + j) = ⟨k, (lo + i) * sz + j, none⟩ := by rw [addr_add_lit, Nat.add_mul, Nat.add_assoc]
        rw [e1]
        refine ⟨u, ?_, RelC.mono letGo_rd hrel⟩
        have hlt : (lo + i) * sz + j < cs.size := by
          unfold World.cell? at hu
          rw [hg] at hu
          simp only [Option.isSome_none, Bool.false_eq_true, if_false] at hu
          exact (Array.getElem?_eq_some_iff.1 hu).1
        have hS' : cs.size ≤ (letGo C0 C B).S k := by
          simp only [letGo, if_neg hknew, hg]
          exact Nat.le_max_right _ _
        show (if (lo + i) * sz + j < (letGo C0 C B).S k then C.w.cell? _ else none) = some u
        rw [if_pos (by omega)]; exact hu
      · cases hr
    · obtain ⟨ad, cap, rfl, hrel⟩ := rowsOf_slice hh hlk h hr fun b lo l e => hx ⟨b, lo, l, e⟩
      exact RelC.mono letGo_rd hrel
theorem fzP_rel (hn : Nxt C0 C) (hH : C.H = B ++ L) (hh : HRel C) (hB : B.length = C0.H.length) {lk : Nat → Option Ent} (hlk : ∀ b, lk b = C.H[b]?) {x y : AV} {v : Value} (hf : FzP lk B.length x y) (h : Rel C x v) : Rel (letGo C0 C B) y v := by
  obtain ⟨b, i, off, sz, rows, rs, rfl, hb, hl, hc, rfl⟩ := hf
  have hl' : C.H[b]? = some (.mem sz rows) := by rw [← hlk]; exact hl
  obtain ⟨k, hk, rfl⟩ := h.op_at hl'
  have hos : Rel C (.os b 0 rows.length) (.slice (some ⟨k, 0 * sz, none⟩) rows.length rows.length) := ⟨sz, rows, k, rows.length, hl', hk, rfl, by omega, Nat.le_refl _⟩
  obtain ⟨_, _, _, _, _, hsz, _⟩ := mem_cell hh hl' hk
  obtain ⟨hlen, hcr⟩ := closeRows_get hc
  have hro : rowsOf lk (.os b 0 rows.length) = some rs := by simp only [rowsOf, hl, List.drop_zero, List.take_length]; exact hc
  have key := fz1_rel hn hH hh hB hlk (x := .os b 0 rows.length) (y := .c (.sl rs)) (.inr (.inr ⟨rs, hro, rfl, fun b' lo l e => by cases e; exact hb⟩)) hos
  refine ⟨⟨k, 0 * sz, none⟩, rows.length, sz, by rw [hlen]; exact key, fun j row hj => ?_, ?_⟩
  · obtain ⟨row', h1, h2, _⟩ := hcr j row hj
    rw [h2]; exact hsz _ _ h1
  · rw [addr_add_lit]; simp [ownPtr]
theorem fzL_rel (hn : Nxt C0 C) (hH : C.H = B ++ L) (hh : HRel C) (hB : B.length = C0.H.length) {lk : Nat → Option Ent} (hlk : ∀ b, lk b = C.H[b]?) : ∀ {xs ys : List AV} {vs : List Value}, FzL lk B.length xs ys → RelL C xs vs → RelL (letGo C0 C B) ys vs
  | [], [], [], _, _ => trivial
  | _ :: _, _ :: _, _ :: _, hf, h => ⟨hf.1.elim (fun hf => fz1_rel hn hH hh hB hlk hf h.1) (fun hf => fzP_rel hn hH hh hB hlk hf h.1), fzL_rel hn hH hh hB hlk hf.2 h.2⟩
  | [], _ :: _, _, hf, _ => hf.elim
  | _ :: _, [], _, hf, _ => hf.elim
  | [], [], _ :: _, _, h => h.elim
  | _ :: _, _ :: _, [], _, h => h.elim
theorem fz_rel (hn : Nxt C0 C) (hH : C.H = B ++ L) (hh : HRel C) (hB : B.length = C0.H.length) {lk : Nat → Option Ent} (hlk : ∀ b, lk b = C.H[b]?) {x y : AV} {v : Value} (hf : Fz lk B.length x y) (h : Rel C x v) : Rel (letGo C0 C B) y v := by
  rcases hf with hf | ⟨xs, ys, rfl, rfl, hf⟩ | ⟨f, xs, ys, rfl, rfl, hf⟩
  · exact hf.elim (fun hf => fz1_rel hn hH hh hB hlk hf h) (fun hf => fzP_rel hn hH hh hB hlk hf h)
  · obtain ⟨vs, rfl, hl⟩ := h
    exact ⟨vs, rfl, fzL_rel hn hH hh hB hlk hf hl⟩
  · obtain ⟨vs, rfl, hl⟩ := h
    exact ⟨vs, rfl, fzL_rel hn hH hh hB hlk hf hl⟩
theorem fzR_rel (hn : Nxt C0 C) (hH : C.H = B ++ L) (hh : HRel C) (hB : B.length = C0.H.length) {lk : Nat → Option Ent} (hlk : ∀ b, lk b = C.H[b]?) : ∀ {xs ys : List AV} {vs : List Value}, FzR lk B.length xs ys → RelL C xs vs → RelL (letGo C0 C B) ys vs
  | [], [], [], _, _ => trivial
  | _ :: _, _ :: _, _ :: _, hf, h => ⟨fz_rel hn hH hh hB hlk hf.1 h.1, fzR_rel hn hH hh hB hlk hf.2 h.2⟩
  | [], _ :: _, _, hf, _ => hf.elim
  | _ :: _, [], _, hf, _ => hf.elim
  | [], [], _ :: _, _, h => h.elim
  | _ :: _, _ :: _, [], _, h => h.elim

theorem undL_get {n : Nat} : ∀ {row : List AV}, undL n row → ∀ (j : Nat) a, row[j]? = some a → a.und n
  | [], _, j, a, h => by simp at h
  | x :: r, hu, 0, a, h => by simp at h; subst h; exact hu.1
  | x :: r, hu, j + 1, a, h => undL_get hu.2 j a (by simpa using h)

theorem letGo_ok (hn : Nxt C0 C) (hH : C.H = B ++ L) (hh : HRel C) (hB : B.length = C0.H.length) (hu : ∀ e ∈ B, Ent.und B.length e) : Nxt C0 (letGo C0 C B) ∧ HRel (letGo C0 C B) := by
  have hget := letGo_get (C0 := C0) hH
  have hSown : ∀ b e k, B[b]? = some e → blockOf (C.β b) = some k → (letGo C0 C B).S k = C.S k := fun b e k h hk => by
    simp only [letGo]
    rw [if_pos (.inr ⟨b, e, h, hk⟩)]
  refine ⟨⟨hn.os, hn.tape, hn.output, hn.size, fun a v h => letGo_rd a v (hn.rd a v h), by show _ ≤ B.length; omega, fun b sz rows h hb => ?_, fun b sz e rows h hb => ?_, fun k hk hno => ?_, hn.frz, fun b e k h hk => ?_⟩, fun b e h => ?_, fun b b' e e' k hne h h' => ?_⟩
  · exact hn.mem b sz rows (by rw [← hget b (by omega)]; exact h) hb
  · exact hn.grow b sz e rows (by rw [← hget b (by omega)]; exact h) hb
  · obtain ⟨h1, h2⟩ := hn.frame k hk hno
    refine ⟨h1, ?_⟩
    simp only [letGo]
    rw [if_pos (.inl hk)]; exact h2
  · exact hn.own b e k (by rw [← hget b (lt_of_get h)]; exact h) hk
  · have hlt : b < B.length := lt_of_get h
    have hC : C.H[b]? = some e := by rw [← hget b hlt]; exact h
    have hue := hu e (List.mem_of_getElem? h)
    cases e with
    | grow sz ty rows =>
      obtain ⟨xs, h0, h1, h2, h3, h4⟩ := hh.ent b _ hC
      refine ⟨xs, h0, h1, fun k hk => ?_, h3, fun i j row c hi hj => ?_⟩
      · rw [hSown b _ k h hk]; exact h2 k hk
      · obtain ⟨v, hv, hr⟩ := h4 i j row c hi hj
        exact ⟨v, hv, RelC.mono letGo_rd hr⟩
    | mem sz rows =>
      obtain ⟨k, ty, cs, h1, h2, h3, h4, h5, h6⟩ := hh.ent b _ hC
      refine ⟨k, ty, cs, h1, h2, ?_, h4, h5, fun i j row a hi hj => ?_⟩
      · rw [hSown b _ k h (by rw [h1]; rfl)]; exact h3
      · obtain ⟨v, hv, hr⟩ := h6 i j row a hi hj
        exact ⟨v, hv, und_rel letGo_rd (letGo_get hH) (fun _ _ => rfl) (undL_get (hue row (List.mem_of_getElem? hi)) j a hj) hr⟩
  · exact hh.inj b b' e e' k hne (by rw [← hget b (lt_of_get h)]; exact h) (by rw [← hget b' (lt_of_get h')]; exact h')
end

mutual
theorem rel_und {C : Cx} : ∀ {x : AV} {v : Value}, Rel C x v → x.und C.H.length
  | .c _, _, _ => trivial
  | .z0, _, _ => trivial
  | .gs b k, _, h => by obtain ⟨sz, e, rows, h1, _⟩ := h; exact lt_of_get h1
  | .op b i off, _, h => by obtain ⟨sz, rows, k, h1, _⟩ := h; exact lt_of_get h1
  | .rp _ _ _, _, _ => trivial
  | .os b lo len, _, h => by obtain ⟨sz, rows, k, cap, h1, _⟩ := h; exact lt_of_get h1
  | .ag cs, _, h => by obtain ⟨vs, _, hl⟩ := h; exact relL_und hl
  | .tu cs, _, h => by obtain ⟨vs, _, hl⟩ := h; exact relL_und hl
  | .fn f cs, _, h => by obtain ⟨vs, _, hl⟩ := h; exact relL_und hl
  | .when g x, v, h => fun hg => rel_und (h.1 hg)
  | .any, _, _ => trivial
theorem relL_und {C : Cx} : ∀ {xs : List AV} {vs : List Value}, RelL C xs vs → undL C.H.length xs
  | [], [], _ => trivial
  | _ :: _, _ :: _, h => ⟨rel_und h.1, relL_und h.2⟩
  | [], _ :: _, h => h.elim
  | _ :: _, [], h => h.elim
end

theorem ent_und0 {C : Cx} (hh : HRel C) : ∀ e ∈ C.H, Ent.und C.H.length e := fun e he => by
  obtain ⟨b, hb⟩ := List.getElem?_of_mem he
  have := hh.ent b e hb
  cases e with
  | grow sz ty rows => trivial
  | mem sz rows =>
    obtain ⟨k, ty, cs, h1, h2, h3, h4, h5, h6⟩ := this
    intro row hrow
    obtain ⟨i, hi⟩ := List.getElem?_of_mem hrow
    have key : ∀ (r : List AV), (∀ (j : Nat) a, r[j]? = some a → ∃ v, Rel C a v) → undL C.H.length r := by
      intro r
      induction r with
      | nil => intro _; trivial
      | cons x r ih =>
        intro h
        obtain ⟨v, hv⟩ := h 0 x rfl
        exact ⟨rel_und hv, ih fun j a hj => h (j + 1) a (by simpa using hj)⟩
    exact key row fun j a hj => by
      obtain ⟨v, _, hr⟩ := h6 i j row a hi hj
      exact ⟨v, hr⟩

theorem resOf_rel {C : Cx} {avs : List AV} {vs : List Value} (h : RelL C avs vs) : Rel C (resOf avs) (if hs : vs.toArray.size = 1 then vs.toArray[0] else .tuple vs.toArray) := by
  have hl := h.length
  have tup : vs.toArray.size ≠ 1 → resOf avs = .tu avs → Rel C (resOf avs) (if hs : vs.toArray.size = 1 then vs.toArray[0] else .tuple vs.toArray) := fun h1 h2 => by
    rw [dif_neg h1, h2]
    exact ⟨vs.toArray, rfl, by simpa using h⟩
  match avs, vs, h, hl, tup with
  | [], [], h, hl, tup => exact tup (by simp) rfl
  | [x], [v], h, hl, tup => exact h.1
  | _ :: _ :: _, _ :: _ :: _, h, hl, tup => exact tup (by simp) rfl
  | [_], _ :: _ :: _, h, hl, tup => simp at hl
  | _ :: _ :: _, [_], h, hl, tup => simp at hl

theorem results_run {C : Cx} {a : Act} {fn : Func} {vs : List Value} (h : (fn.results.toList.mapM fun
      | .tmp t => pure (a.tmps.getD t undef)
      | .cell b t => do loadVar t (← asAddr (a.tmps.getD b undef)) : Sem (List Value)).run P C.w = .ok vs C.w) : (results fn a.tmps).run P C.w = .ok (if hs : vs.toArray.size = 1 then vs.toArray[0] else .tuple vs.toArray) C.w := by
  unfold results
  rw [Sem.run_bind, Array.mapM_eq_mapM_toList]
  have h2 := Sem.run_bind (P := P) (w := C.w) (x := (fn.results.toList.mapM fun
      | .tmp t => pure (a.tmps.getD t undef)
      | .cell b t => do loadVar t (← asAddr (a.tmps.getD b undef)) : Sem (List Value))) (f := fun x => (pure x.toArray : Sem (Array Value)))
  rw [h] at h2
  have h3 : (List.toArray <$> (fn.results.toList.mapM fun
      | .tmp t => pure (a.tmps.getD t undef)
      | .cell b t => do loadVar t (← asAddr (a.tmps.getD b undef)) : Sem (List Value))).run P C.w = .ok vs.toArray C.w := h2
  refine (congrArg (fun r => Result.andThen r fun a w' => (pure (if h : a.size = 1 then a[0] else Value.tuple a) : Sem Value).run P w') h3).trans ?_
  rfl

/-- **A function, by its code.** -/
theorem ACalls.of_awp (hm : P.follows .mixedOrders = true) {f : FuncId} {fn : Func} {c : Code} {ac : ACode} {rvs : List RV} {k : Nat} (hf : P.funcs[f]? = some fn) (hb : fn.body = some c) (hnm : (fn.name == "runtime.NumGoroutine") = false) (hk : fn.ntmps = k)
    (hc : compile P own late c = some ac) (hr : cRes P fn.results.toList = some rvs) {args : List AV} {H : List Ent} {R : AV → List Ent → Prop}
    (h : (∀ e ∈ H, Ent.und H.length e) → undL H.length args → awp P ac (fun e s => (match e with | .exit _ => False | _ => True) ∧ ∃ p avs, aRes s rvs = some (p, avs) ∧ p ∧
      ((R (resOf avs) (s.B ++ s.L)) ∨ ∃ ys, FzR s.look s.B.length avs ys ∧ (∀ e ∈ s.B, Ent.und s.B.length e) ∧ R (resOf ys) s.B)) { t := args ++ List.replicate (k - args.length) .any, B := H, L := [] }) : ACalls P f args H R := by
  refine ⟨⟨fn, hf, by rw [hb]; rfl, hnm⟩, fun C vals hh hH hl => ?_⟩
  subst hH
  refine calls_of_wp hf hb ?_
  have hst : StRel C { tmps := vals ++ Array.replicate (fn.ntmps - vals.size) undef, defers := [] } { t := args ++ List.replicate (k - args.length) .any, B := C.H, L := [] } := by
    refine ⟨by simp, hh, ?_, rfl⟩
    have hlen := hl.length
    simp only [Array.length_toList] at hlen
    show RelL C (args ++ List.replicate (k - args.length) .any) (vals ++ Array.replicate (fn.ntmps - vals.size) undef).toList
    rw [Array.toList_append, hk, ← hlen, Array.toList_replicate]
    refine hl.append (RelL.of_get (by simp) fun j a v ha hv => ?_)
    have := List.mem_of_getElem? ha
    rw [(List.mem_replicate.1 this).2]
    trivial
  refine awp_sound hm (C0 := C) c ac hc _ _ C _ _ (h (ent_und0 hh) (relL_und hl)) (Nxt.refl C) rfl hst fun C' a' e s' hn hB hs hq => ?_
  obtain ⟨he, p, avs, ha, hp, hend⟩ := hq
  obtain ⟨vs, hv, hrun⟩ := res_sound hs fn.results.toList rvs p avs hr ha hp
  have hres := results_run (C := C') (a := a') (fn := fn) (vs := vs) hrun
  have fin : ∃ v, (results fn a'.tmps).run P C'.w = .ok v C'.w ∧ ∃ v' C'' r, Ending.returned v = .returned v' ∧ C''.w = C'.w ∧ Nxt C C'' ∧ HRel C'' ∧ Rel C'' r v' ∧ R r C''.H := by
    refine ⟨_, hres, ?_⟩
    rcases hend with hR | ⟨ys, hf, hu, hR⟩
    · exact ⟨_, C', _, rfl, rfl, hn, hs.hh, resOf_rel hv, by rw [hs.h]; exact hR⟩
    · obtain ⟨h1, h2⟩ := letGo_ok hn hs.h hs.hh hB hu
      exact ⟨_, letGo C C' s'.B, _, rfl, rfl, h1, h2, resOf_rel (fzR_rel hn hs.h hs.hh hB (rowsOf_look hs.h) hf hv), hR⟩
  cases e with
  | exit i => exact he.elim
  | nrm => exact ⟨hs.d, fin⟩
  | ret => exact ⟨hs.d, fin⟩
end
end Go.Den
namespace Go.Den

theorem aSeg_mono : ∀ (l : List COp) (s : St) (K K' : St → Prop), (∀ s, K s → K' s) → aSeg l s K → aSeg l s K'
  | [], s, K, K', hk, h => hk s h
  | o :: r, s, K, K', hk, ⟨s', h1, h2⟩ => ⟨s', h1, aSeg_mono r s' K K' hk h2⟩
theorem aItems_mono {P : Program} : ∀ (l : List Item) (s : St) (K K' : St → Prop), (∀ s, K s → K' s) → aItems P l s K → aItems P l s K'
  | [], s, K, K', hk, h => hk s h
  | .chk _ :: r, s, K, K', hk, h => aItems_mono r s K K' hk h
  | .seg ops :: r, s, K, K', hk, h => by
    exact aSeg_mono ops s _ _ (fun s' h => aItems_mono r s' K K' hk h) h
  | .call d g f args :: r, s, K, K', hk, h => by
    have hU : aCallU P d f args s (fun s' => aItems P r s' K) → aCallU P d f args s (fun s' => aItems P r s' K') := fun ⟨F, as, h1, h2, h3⟩ =>
      ⟨F, as, h1, h2, h3.mono fun r' H' ⟨B', L', x, y, z⟩ => ⟨B', L', x, y, aItems_mono r _ K K' hk z⟩⟩
    cases g with
    | none => exact hU h
    | some g =>
      obtain ⟨gb, h1, r', h2, h3⟩ := h
      exact ⟨gb, h1, r', h2, aItems_mono r _ K K' hk h3⟩
theorem aItemsQ_mono {P : Program} : ∀ (l : List Item) (s : St) (K K' : St → Prop), (∀ s, K s → K' s) → aItemsQ P l s K → aItemsQ P l s K'
  | [], s, K, K', hk, h => hk s h
  | .chk _ :: r, s, K, K', hk, h => ⟨h.1, aItemsQ_mono r s K K' hk h.2⟩
  | .seg ops :: r, s, K, K', hk, h => by
    exact ⟨h.1, aSeg_mono ops s _ _ (fun s' h => aItemsQ_mono r s' K K' hk h) h.2⟩
  | .call d g f args :: r, s, K, K', hk, h => by
    obtain ⟨gb, h1, x, h3, h4⟩ := h
    exact ⟨gb, h1, x, h3, aItemsQ_mono r _ K K' hk h4⟩
theorem awp_mono {P : Program} : ∀ (c : ACode) {Q Q' : AX → St → Prop}, (∀ e s, Q e s → Q' e s) → ∀ s, awp P c Q s → awp P c Q' s
  | .skip, Q, Q', hq, s, h => hq _ _ h
  | .reg draw items, Q, Q', hq, s, h => by
    unfold awp at h ⊢
    cases draw
    · exact aItems_mono items s _ _ (fun s => hq _ s) h
    · exact aItemsQ_mono items s _ _ (fun s => hq _ s) h
  | .seq x y, Q, Q', hq, s, h => by
    unfold awp at h ⊢
    refine awp_mono x (fun e s h => ?_) s h
    cases e with
    | nrm => exact awp_mono y hq s h
    | exit i => exact hq _ _ h
    | ret => exact hq _ _ h
  | .cond c x y, Q, Q', hq, s, h => by
    obtain ⟨b, h1, h2, h3⟩ := h
    exact ⟨b, h1, fun hb => awp_mono x hq s (h2 hb), fun hb => awp_mono y hq s (h3 hb)⟩
  | .block id x, Q, Q', hq, s, h => by
    unfold awp at h ⊢
    refine awp_mono x (fun e s h => ?_) s h
    cases e with
    | nrm => exact hq _ _ h
    | exit i =>
      simp only at h ⊢
      split at h
      · rename_i hi; rw [if_pos hi]; exact hq _ _ h
      · rename_i hi; rw [if_neg hi]; exact hq _ _ h
    | ret => exact hq _ _ h
  | .loop x, Q, Q', hq, s, h => by
    obtain ⟨I, h0, h1⟩ := h
    refine ⟨I, h0, fun n s hs => awp_mono x (fun e s h => ?_) s (h1 n s hs)⟩
    cases e with
    | nrm => exact h
    | exit i => exact hq _ _ h
    | ret => exact hq _ _ h
  | .exit id, Q, Q', hq, s, h => hq _ _ h
  | .ret, Q, Q', hq, s, h => hq _ _ h

/-- What the machine knows of a function. -/
structure FnIs (P : Program) (f : FuncId) (ac : ACode) (k : Nat) (rvs : List RV) : Prop where
  is : ∃ (own : Nat) (late : Bool) (fn : Func) (c : Code), P.funcs[f]? = some fn ∧ fn.body = some c ∧ (fn.name == "runtime.NumGoroutine") = false ∧ fn.ntmps = k ∧ compile P own late c = some ac ∧ cRes P fn.results.toList = some rvs

theorem FnIs.mk' {P : Program} {f : FuncId} {ac : ACode} {k : Nat} {rvs : List RV} {own : Nat} {late : Bool} {fn : Func} (hf : P.funcs[f]? = some fn) (hb : fn.body.isSome = true) (hnm : (fn.name == "runtime.NumGoroutine") = false) (hk : fn.ntmps = k) (hc : compile P own late (fn.body.getD .skip) = some ac)
    (hr : cRes P fn.results.toList = some rvs) : FnIs P f ac k rvs := by
  cases h : fn.body with
  | none => rw [h] at hb; cases hb
  | some c => rw [h] at hc; exact ⟨own, late, fn, c, hf, h, hnm, hk, hc, hr⟩

def start (k : Nat) (args : List AV) (H : List Ent) : St := { t := args ++ List.replicate (k - args.length) .any, B := H, L := [] }

/-- How a function ends that leaves the memory that was there alone: with r. -/
def Ends (rvs : List RV) (H : List Ent) (r : AV) (e : AX) (s : St) : Prop :=
  (match e with | .exit _ => False | _ => True) ∧ s.B = H ∧ ∃ p avs, aRes s rvs = some (p, avs) ∧ p ∧ ∃ ys, FzR s.look s.B.length avs ys ∧ resOf ys = r

theorem PCalls.of {P : Program} (hm : P.follows .mixedOrders = true) {f : FuncId} {ac : ACode} {k : Nat} {rvs : List RV} (hf : FnIs P f ac k rvs) {args : List AV} {H : List Ent} {r : AV}
    (h : awp P ac (Ends rvs H r) (start k args H)) : PCalls P f args H r := by
  obtain ⟨own, late, fn, c, h1, h2, h3, h4, h5, h6⟩ := hf.is
  refine ACalls.of_awp hm h1 h2 h3 h4 h5 h6 fun hu _ => awp_mono ac ?_ _ h
  rintro e s ⟨he, hB, p, avs, ha, hp, ys, hf, hr⟩
  refine ⟨he, p, avs, ha, hp, .inr ⟨ys, hf, ?_, hr, hB⟩⟩
  rw [hB]; exact hu

end Go.Den
namespace Go.Den
noncomputable section

/-- The shields: what stands behind one is left as it is while code is walked. -/
structure Om where
  i : (Unit → Int) → Int
  b : (Unit → Bool) → Bool
  p : (Unit → Prop) → Prop
  s : (Unit → ByteArray) → ByteArray
  n : (Unit → Nat) → Nat
  r : (Unit → List (List CV)) → List (List CV)
  m : (Unit → List (List AV)) → List (List AV)
structure Om.Real (ω : Om) : Prop where
  i : ∀ f, ω.i f = f ()
  b : ∀ f, ω.b f = f ()
  p : ∀ f, ω.p f = f ()
  s : ∀ f, ω.s f = f ()
  n : ∀ f, ω.n f = f ()
  r : ∀ f, ω.r f = f ()
  m : ∀ f, ω.m f = f ()
def Om.real : Om := ⟨fun f => f (), fun f => f (), fun f => f (), fun f => f (), fun f => f (), fun f => f (), fun f => f ()⟩
theorem Om.real_is : Om.real.Real := ⟨fun _ => rfl, fun _ => rfl, fun _ => rfl, fun _ => rfl, fun _ => rfl, fun _ => rfl, fun _ => rfl⟩
theorem Om.Real.eq {ω : Om} (h : ω.Real) : ω = Om.real := by
  obtain ⟨i, b, p, s, n, r, m⟩ := ω
  simp only [Om.real, Om.mk.injEq]
  exact ⟨funext h.i, funext h.b, funext h.p, funext h.s, funext h.n, funext h.r, funext h.m⟩

def bNot (b : Bool) : Bool := Bool.rec (motive := fun _ => Bool) true false b
def bIf (c x y : Bool) : Bool := Bool.rec (motive := fun _ => Bool) y x c
def pIf (g : Bool) (p : Prop) : Prop := Bool.rec (motive := fun _ => Prop) True p g
theorem bNot_rec (b : Bool) : (Bool.rec (motive := fun _ => Bool) true false b) = !b := by cases b <;> rfl
theorem bIf_rec (c x y : Bool) : (Bool.rec (motive := fun _ => Bool) y x c) = cond c x y := by cases c <;> rfl
theorem pIf_rec (g : Bool) (p : Prop) : (Bool.rec (motive := fun _ => Prop) True p g) = (g = true → p) := by cases g <;> simp

section
variable (ω : Om)
def oInt (op : BinOp) (k : IntKind) (a b : Int) : Prop × Value :=
  match op with
  | .add => (True, .int k (ω.i fun _ => k.wrap (a + b)))
  | .sub => (True, .int k (ω.i fun _ => k.wrap (a - b)))
  | .mul => (True, .int k (ω.i fun _ => k.wrap (a * b)))
  | .quo => (ω.p fun _ => b ≠ 0, .int k (ω.i fun _ => k.wrap (a.tdiv b)))
  | .rem => (ω.p fun _ => b ≠ 0, .int k (ω.i fun _ => a.tmod b))
  | .eql => (True, .bool (ω.b fun _ => a == b))
  | .neq => (True, .bool (ω.b fun _ => a != b))
  | .lss => (True, .bool (ω.b fun _ => decide (a < b)))
  | .leq => (True, .bool (ω.b fun _ => decide (a ≤ b)))
  | .gtr => (True, .bool (ω.b fun _ => decide (a > b)))
  | .geq => (True, .bool (ω.b fun _ => decide (a ≥ b)))
  | .and => (True, .int k (ω.i fun _ => bitsOf .and k a b))
  | .or => (True, .int k (ω.i fun _ => bitsOf .or k a b))
  | .xor => (True, .int k (ω.i fun _ => bitsOf .xor k a b))
  | .andNot => (True, .int k (ω.i fun _ => bitsOf .andNot k a b))
  | .shl => (ω.p fun _ => 0 ≤ b, .int k (ω.i fun _ => k.wrap (a * 2 ^ (min b.toNat k.bits))))
  | .shr => (ω.p fun _ => 0 ≤ b, .int k (ω.i fun _ => a.fdiv (2 ^ (min b.toNat k.bits))))
def oStr (op : BinOp) (x y : ByteArray) : Prop × Value :=
  match op with
  | .add => (ω.p fun _ => Int.ofNat (x.size + y.size) ≤ 9223372036854775807, .string (ω.s fun _ => x ++ y))
  | .eql => (True, .bool (ω.b fun _ => decide (x = y)))
  | .neq => (True, .bool (ω.b fun _ => !decide (x = y)))
  | .lss => (True, .bool (ω.b fun _ => Op.bytesLess x.toList y.toList))
  | .leq => (True, .bool (ω.b fun _ => Op.bytesLess x.toList y.toList || decide (x = y)))
  | .gtr => (True, .bool (ω.b fun _ => !(Op.bytesLess x.toList y.toList || decide (x = y))))
  | .geq => (True, .bool (ω.b fun _ => !Op.bytesLess x.toList y.toList))
  | _ => (False, undef)
def oEqCell : CK → AV → AV → Option Bool
  | .i, .c (.sc (.int k a)), .c (.sc (.int k' b)) => if k = k' then some (ω.b fun _ => a == b) else none
  | .b, .c (.sc (.bool a)), .c (.sc (.bool b)) => some (ω.b fun _ => a == b)
  | .s, .c (.sc (.string a)), .c (.sc (.string b)) => some (ω.b fun _ => decide (a = b))
  | _, _, _ => none
def oEqCells : List CK → List AV → List AV → Option Bool
  | [], [], [] => some true
  | k :: ks, x :: xs, y :: ys => (oEqCell ω k x y).bind fun a => (oEqCells ks xs ys).map fun b => ω.b fun _ => a && b
  | _, _, _ => none
def oClose (lk : Nat → Option Ent) : AV → Option CV
  | .c v => some v
  | .gs b n => (match lk b with
    | some (.grow _ _ rows) => some (.sl (ω.r fun _ => rows.take n))
    | _ => none)
  | _ => none
def oCloseRows (lk : Nat → Option Ent) (rows : List (List AV)) : Option (List (List CV)) := rows.mapM fun row => row.mapM (oClose ω lk)
def oRows (lk : Nat → Option Ent) : AV → Option (List (List CV))
  | .c (.sl rows) => some rows
  | .c (.sc (.slice none 0 0)) => some []
  | .z0 => some []
  | .gs b n => match lk b with | some (.grow _ _ rows) => some (ω.r fun _ => rows.take n) | _ => none
  | .os b lo len => match lk b with
    | some (.mem _ rows) => oCloseRows ω lk ((rows.drop lo).take len)
    | _ => none
  | _ => none
def oLo (ω : Om) : Option AV → Option Int
  | none => some 0
  | some a => intOf? a

def oPure (op : MOp) (ev : Opd → AV) (lk : Nat → Option Ent) : Option (Prop × AV) :=
  match op with
  | .mov x => some (True, ev x)
  | .build z parts => (fillA (z.map fun v => .c (.sc v)) (parts.map fun p => (p.1, p.2.1, ev p.2.2))).map fun cs => (True, .ag cs)
  | .ldc x =>
    match ev x with
    | .op b i off => match lk b with
      | some (.mem _ rows) => some (i < rows.length ∧ off < (rows.getD i []).length, (rows.getD i []).getD off .any)
      | _ => none
    | .rp rows i off => some (i < rows.length ∧ off < (rows.getD i []).length, .c ((rows.getD i []).getD off (.sc undef)))
    | _ => none
  | .lda n x =>
    match ev x with
    | .op b i off => match lk b with
      | some (.mem _ rows) => some (i < rows.length ∧ off + n ≤ (rows.getD i []).length, .ag (((rows.getD i []).drop off).take n))
      | _ => none
    | .rp rows i off => some (i < rows.length ∧ off + n ≤ (rows.getD i []).length, .ag ((((rows.getD i []).drop off).take n).map .c))
    | _ => none
  | .nilc x =>
    match ev x with
    | .op b i off => match lk b with
      | some (.mem _ _) => some (True, .op b i off)
      | _ => none
    | .rp rows i off => some (True, .rp rows i off)
    | .fn f caps => some (True, .fn f caps)
    | _ => none
  | .bin op x y =>
    match ev x, ev y with
    | .c (.sc (.int k a)), .c (.sc (.int k' b)) =>
      if k = k' ∨ op = .shl ∨ op = .shr then some ((oInt ω op k a b).1, .c (.sc (oInt ω op k a b).2)) else none
    | .c (.sc (.string a)), .c (.sc (.string b)) => some ((oStr ω op a b).1, .c (.sc (oStr ω op a b).2))
    | _, _ => none
  | .eqb neg x y =>
    match ev x, ev y with
    | .c (.sc (.bool a)), .c (.sc (.bool b)) => some (True, .c (.sc (.bool (if neg then ω.b fun _ => !(a == b) else ω.b fun _ => a == b))))
    | _, _ => none
  | .eqa neg ks x y =>
    match ev x, ev y with
    | .ag xs, .ag ys => (oEqCells ω ks xs ys).map fun r => (True, .c (.sc (.bool (if neg then bNot r else r))))
    | _, _ => none
  | .un op x =>
    match op, ev x with
    | .not, .c (.sc (.bool b)) => some (True, .c (.sc (.bool (bNot b))))
    | .neg, .c (.sc (.int k n)) => some (True, .c (.sc (.int k (ω.i fun _ => k.wrap (0 - n)))))
    | _, _ => none
  | .cvi k x =>
    match ev x with
    | .c (.sc (.int _ n)) => some (True, .c (.sc (.int k (ω.i fun _ => k.wrap n))))
    | _ => none
  | .b2s x => (oRows ω lk (ev x)).map fun rows => (ω.p fun _ => rows.all isByteRow = true, .c (.sc (.string (ω.s fun _ => strOf rows))))
  | .mkf f caps => some (True, .fn f (caps.map ev))
  | .slc sz x lo hi mx =>
    match mx with
    | some _ => none
    | none =>
      match ev x with
      | .os b l n =>
        match lk b with
        | some (.mem sz' _) => (oLo ω (lo.map ev)).bind fun l' => (match hi.map ev with | none => some (n : Int) | some a => intOf? a).map fun h' =>
            (sz' = sz ∧ 0 ≤ l' ∧ l' < h' ∧ h' ≤ n, .os b (l + l'.toNat) (h'.toNat - l'.toNat))
        | _ => none
      | a => (oRows ω lk a).bind fun rows => (oLo ω (lo.map ev)).bind fun l => (match hi.map ev with | none => some (ω.i fun _ => Int.ofNat rows.length) | some a => intOf? a).map fun h =>
            (ω.p fun _ => (∀ (i : Nat) row, rows[i]? = some row → row.length = sz) ∧ 0 ≤ l ∧ l ≤ h ∧ h ≤ Int.ofNat rows.length, .c (.sl (ω.r fun _ => (rows.drop l.toNat).take (h.toNat - l.toNat))))
  | .sls x lo hi =>
    match ev x with
    | .c (.sc (.string s)) => (oLo ω (lo.map ev)).bind fun l => (match hi.map ev with | none => some (ω.i fun _ => Int.ofNat s.size) | some a => intOf? a).map fun h =>
        (ω.p fun _ => 0 ≤ l ∧ l ≤ h ∧ h ≤ Int.ofNat s.size, .c (.sc (.string (ω.s fun _ => s.extract l.toNat h.toNat))))
    | _ => none
  | .fad off x =>
    match ev x with
    | .op b i o => match lk b with
      | some (.mem _ _) => some (True, .op b i (o + off))
      | _ => none
    | .rp rows i o => some (True, .rp rows i (o + off))
    | _ => none
  | .fld off n x =>
    match ev x with
    | .ag cs => match n with
      | some n => some (off + n ≤ cs.length, .ag ((cs.drop off).take n))
      | none => some (off < cs.length, cs.getD off .any)
    | _ => none
  | .iad sz x i =>
    match ev x, intOf? (ev i) with
    | .os b lo n, some i => match lk b with
      | some (.mem sz' _) => some (sz' = sz ∧ 0 ≤ i ∧ i < n, .op b (lo + i.toNat) 0)
      | _ => none
    | _, _ => none
  | .iaa n sz x i =>
    match intOf? (ev i) with
    | none => none
    | some i => iaaF n sz i lk (ev x)
  | .ixs x i =>
    match ev x, intOf? (ev i) with
    | .c (.sc (.string s)), some i => some (ω.p fun _ => 0 ≤ i ∧ i < Int.ofNat s.size, .c (.sc (.int .u8 (ω.i fun _ => bt s i))))
    | _, _ => none
  | .ext x i =>
    match ev x with
    | .tu vs => some (i < vs.length, vs.getD i .any)
    | _ => none
  | .lenS x =>
    match ev x with
    | .c (.sc (.string s)) => some (True, .c (.sc (.int .i64 (ω.i fun _ => Int.ofNat s.size))))
    | _ => none
  | .len x =>
    match ev x with
    | .gs b n => match lk b with
      | some (.grow _ _ rows) => some (ω.p fun _ => n ≤ rows.length, .c (.sc (.int .i64 (ω.i fun _ => Int.ofNat n))))
      | _ => none
    | .os b _ n => match lk b with
      | some (.mem _ _) => some (True, .c (.sc (.int .i64 (ω.i fun _ => Int.ofNat n))))
      | _ => none
    | .c (.sl rows) => some (True, .c (.sc (.int .i64 (ω.i fun _ => Int.ofNat rows.length))))
    | .c (.sc (.slice none 0 0)) => some (True, .c (.sc (.int .i64 0)))
    | .z0 => some (True, .c (.sc (.int .i64 0)))
    | _ => none
  | _ => none

def oEff (op : MOp) (s : St) : Option (Prop × St × AV) :=
  let ev := fun x => (strip (s.ev x)).2
  match op with
  | .alloc z => some (z.all Value.oneCell' = true, { s with L := s.L ++ [.mem z.length [z.map fun v => .c (.sc v)]] }, .op (lid s.B.length s.L.length) 0 0)
  | .box x => some ((ev x).cells.all AV.one = true, { s with L := s.L ++ [.mem (ev x).cells.length [(ev x).cells]] }, .op (lid s.B.length s.L.length) 0 0)
  | .st n a v =>
    match ev a with
    | .op b i off => match s.look b with
      | some (.mem sz rows) =>
        let row := rows.getD i []
        let e := Ent.mem sz (rows.set i (row.take off ++ (ev v).cells ++ row.drop (off + n)))
        let p := (ev v).cells.all AV.one = true ∧ (ev v).cells.length = n ∧ i < rows.length ∧ off + n ≤ row.length
        if b < s.B.length then some (p, { s with B := s.B.set b e }, .c (.sc undef)) else some (p, { s with L := s.L.set (b - s.B.length) e }, .c (.sc undef))
      | _ => none
    | _ => none
  | .bslice own n sz z parts =>
    (fillA ((List.replicate n (z.map fun v => AV.c (.sc v))).flatten) (parts.map fun p => (p.1, p.2.1, ev p.2.2))).bind fun cs =>
      if own then some (z.all Value.oneCell' = true, { s with L := s.L ++ [.mem sz (rowsFrom sz n cs)] }, .os (lid s.B.length s.L.length) 0 n)
      else (oCloseRows ω s.look (rowsFrom sz n cs)).map fun rows => (z.all Value.oneCell' = true, s, .c (.sl rows))
  | .gsl n sz e z parts =>
    (fillA ((List.replicate n (z.map fun v => AV.c (.sc v))).flatten) (parts.map fun p => (p.1, p.2.1, ev p.2.2))).bind fun cs =>
      (oCloseRows ω s.look (rowsFrom sz n cs)).map fun rows => (z.all Value.oneCell' = true, { s with L := s.L ++ [.grow sz e rows] }, .gs (lid s.B.length s.L.length) n)
  | .msl sz bytes z l c =>
    match ev l, ev c with
    | .c (.sc (.int _ n)), .c (.sc (.int _ m)) =>
      some (ω.p fun _ => n = m ∧ 0 ≤ n ∧ n * Int.ofNat bytes ≤ 140737488355328 ∧ n ≤ 9223372036854775807 ∧ z.all Value.oneCell' = true, { s with L := s.L ++ [.mem sz (ω.m fun _ => List.replicate n.toNat (z.map fun v => .c (.sc v)))] }, .os (lid s.B.length s.L.length) 0 (ω.n fun _ => n.toNat))
    | _, _ => none
  | .app sz bytes e x y =>
    (oRows ω s.look (ev y)).bind fun new =>
      match ev x with
      | .c (.sc (.slice none 0 0)) =>
        some (ω.p fun _ => (∀ (i : Nat) row, new[i]? = some row → row.length = sz ∧ row.all CV.one = true) ∧ new.length * bytes ≤ 140737488355328 ∧ new.length ≤ 9223372036854775807,
          { s with L := s.L ++ [.grow sz e new] }, .gs (lid s.B.length s.L.length) (ω.n fun _ => new.length))
      | .gs b n => match s.look b with
        | some (.grow sz' e' rows) =>
          let p := sz' = sz ∧ e' = e ∧ ω.p fun _ => n = rows.length ∧ (∀ (i : Nat) row, new[i]? = some row → row.length = sz ∧ row.all CV.one = true) ∧ (n + new.length) * bytes ≤ 140737488355328 ∧ n + new.length ≤ 9223372036854775807
          if b < s.B.length then some (p, { s with B := s.B.set b (.grow sz e (ω.r fun _ => rows ++ new)) }, .gs b (ω.n fun _ => n + new.length))
          else some (p, { s with L := s.L.set (b - s.B.length) (.grow sz e (ω.r fun _ => rows ++ new)) }, .gs b (ω.n fun _ => n + new.length))
        | _ => none
      | _ => none
  | _ => none

def oVal (s : St) : Option (Nat × Bool) → Option Bool
  | none => some true
  | some (t, want) =>
    match s.t.getD t .any with
    | .c (.sc (.bool b)) => some (Bool.rec (motive := fun _ => Bool) (bNot b) b want)
    | .when g (.c (.sc (.bool b))) => some (bIf g (Bool.rec (motive := fun _ => Bool) (bNot b) b want) false)
    | .when false _ => some false
    | _ => none

def oConds (s : St) : List Opd → Prop
  | [] => True
  | x :: r => (strip (s.ev x)).1 = true ∧ oConds s r

def oPick (s : St) (c a b : Opd) : Option (Prop × AV) :=
  match strip (s.ev c), strip (s.ev a), strip (s.ev b) with
  | (gc, .c (.sc (.bool x))), (ga, .c (.sc (.bool y))), (gb, .c (.sc (.bool z))) => some (gc = true ∧ pIf x (ga = true) ∧ pIf (bNot x) (gb = true), .c (.sc (.bool (bIf x y z))))
  | (gc, .c (.sc (.bool x))), (ga, .c (.sc (.bool y))), _ => some (gc = true ∧ x = true ∧ ga = true, .c (.sc (.bool y)))
  | (gc, .c (.sc (.bool x))), _, (gb, .c (.sc (.bool z))) => some (gc = true ∧ x = false ∧ gb = true, .c (.sc (.bool z)))
  | _, _, _ => none

def oLook (op : MOp) (s : St) : Option (Prop × AV) :=
  match op with
  | .pick c a b => oPick s c a b
  | op => (oPure ω op (fun x => (strip (s.ev x)).2) s.look).map fun (r : Prop × AV) => (oConds s (opds op) ∧ r.1, r.2)

/-- One operation. -/
def oOne (o : COp) (s : St) : Option (Prop × St) :=
  if isEff o.op then
    match o.g with
    | none => (oEff ω o.op s).map fun (r : Prop × St × AV) => (oConds s (opds o.op) ∧ r.1, r.2.1.put o.dst r.2.2)
    | some _ => (match stillOp o.op with
      | true => (oVal s o.g).bind fun g => (oEff ω o.op s).map fun (r : Prop × St × AV) => (pIf g (oConds s (opds o.op) ∧ r.1), s.put o.dst (.when g r.2.2))
      | false => none)
  else
    match o.g with
    | none => (oLook ω o.op s).map fun (r : Prop × AV) => (r.1, s.put o.dst r.2)
    | some _ => (oVal s o.g).bind fun g => (oLook ω o.op s).map fun (r : Prop × AV) => (pIf g r.1, s.put o.dst (.when g r.2))
end

/-! ### The same, without shields -/
section
theorem oInt_eq (op : BinOp) (k : IntKind) (a b : Int) : oInt Om.real op k a b = intBin op k a b := by cases op <;> rfl
theorem oStr_eq (op : BinOp) (a b : ByteArray) : oStr Om.real op a b = strBin op a b := by cases op <;> rfl
theorem oEqCell_eq (k : CK) (x y : AV) : oEqCell Om.real k x y = eqCell k x y := by
  unfold oEqCell eqCell
  rfl
theorem oEqCells_eq : ∀ (ks : List CK) (xs ys : List AV), oEqCells Om.real ks xs ys = eqCells ks xs ys
  | [], [], [] => rfl
  | k :: ks, x :: xs, y :: ys => by
    simp only [oEqCells, eqCells, oEqCell_eq, oEqCells_eq ks xs ys]
    rfl
  | [], [], _ :: _ => rfl
  | [], _ :: _, _ => rfl
  | _ :: _, [], _ => rfl
  | _ :: _, _ :: _, [] => rfl
theorem oCloseRows_eq (lk : Nat → Option Ent) (rows : List (List AV)) : oCloseRows Om.real lk rows = closeRows lk rows := rfl
theorem oRows_eq (lk : Nat → Option Ent) (x : AV) : oRows Om.real lk x = rowsOf lk x := by
  unfold oRows rowsOf
  rfl
theorem oPure_is {op : MOp} {ev : Opd → AV} {lk : Nat → Option Ent} {r : Prop × AV} (h : oPure Om.real op ev lk = some r) : aPure op ev lk = some r := by
  cases op
  case bin op x y =>
    simp only [oPure, oInt_eq, oStr_eq] at h
    exact h
  case eqa neg ks x y =>
    have e : ∀ r : Bool, (if neg = true then bNot r else r) = (if neg = true then !r else r) := fun r => by cases neg <;> cases r <;> rfl
    simp only [oPure, oEqCells_eq, e] at h
    exact h
  case b2s x =>
    simp only [oPure, oRows_eq] at h
    exact h
  case un op x =>
    have e : ∀ r : Bool, bNot r = !r := fun r => by cases r <;> rfl
    simp only [oPure, e] at h
    exact h
  case slc sz x lo hi mx =>
    cases mx with
    | some mx => simp only [oPure] at h; cases h
    | none =>
      simp only [oPure, oRows_eq] at h
      simp only [aPure, Option.map_none]
      exact h
  case iad sz x i =>
    simp only [oPure] at h
    split at h
    · rename_i b lo n i' hx hi
      simp only [aPure, hx, hi, iadF]
      exact h
    · cases h
  case ixs x i => exact h
  case eqb neg x y =>
    have e : ∀ a b : Bool, (if neg = true then Om.real.b fun _ => !(a == b) else Om.real.b fun _ => a == b) = (if neg = true then !(a == b) else a == b) := fun a b => by cases neg <;> rfl
    simp only [oPure, e] at h
    exact h
  all_goals exact h

theorem oEff_is {op : MOp} {s : St} {r : Prop × St × AV} (h : oEff Om.real op s = some r) : ∃ p, aEff op s = some (p, r.2) ∧ (r.1 → p) := by
  cases op
  case app sz bytes e x y =>
    simp only [oEff, oRows_eq, Option.bind_eq_some_iff] at h
    obtain ⟨new, hn, h⟩ := h
    simp only [aEff, hn, Option.bind_some]
    split at h
    · rename_i hx
      simp only [hx]
      exact ⟨r.1, h, id⟩
    · rename_i b n hx
      simp only [hx]
      split at h
      · rename_i sz' e' rows hb
        simp only [hb]
        split at h
        · rename_i hlt
          simp only [hlt, if_true]
          simp only [Option.some.injEq] at h
          subst h
          exact ⟨_, rfl, fun ⟨h1, h2, h3⟩ => ⟨h1, h2, h3⟩⟩
        · rename_i hlt
          simp only [hlt, if_false]
          simp only [Option.some.injEq] at h
          subst h
          exact ⟨_, rfl, fun ⟨h1, h2, h3⟩ => ⟨h1, h2, h3⟩⟩
      · cases h
    · cases h
  all_goals exact ⟨r.1, h, id⟩

theorem oConds_is (s : St) : ∀ l, oConds s l = condsOf s l
  | [] => rfl
  | x :: r => by simp only [oConds, condsOf, oConds_is s r]
theorem oVal_is {s : St} {g : Option (Nat × Bool)} {b : Bool} (h : oVal s g = some b) : gval s g = some b := by
  have e : ∀ want b : Bool, (Bool.rec (motive := fun _ => Bool) (bNot b) b want) = (b == want) := fun want b => by cases want <;> cases b <;> rfl
  have e2 : ∀ g b : Bool, bIf g b false = (g && b) := fun g b => by cases g <;> cases b <;> rfl
  simp only [oVal, e, e2] at h
  exact h
theorem pIf_is {g : Bool} {p : Prop} : pIf g p ↔ (g = true → p) := by cases g <;> simp [pIf]
theorem bIf_is (c x y : Bool) : bIf c x y = cond c x y := by cases c <;> rfl
theorem oLook_is {op : MOp} {s : St} {r : Prop × AV} (h : oLook Om.real op s = some r) : ∃ p, lookOf op s = some (p, r.2) ∧ (r.1 → p) := by
  have pure : ∀ op, (oPure Om.real op (fun x => (strip (s.ev x)).2) s.look).map (fun (r : Prop × AV) => (oConds s (opds op) ∧ r.1, r.2)) = some r → ∃ p, (aPure op (fun x => (strip (s.ev x)).2) s.look).map (fun (r : Prop × AV) => (condsOf s (opds op) ∧ r.1, r.2)) = some (p, r.2) ∧ (r.1 → p) := fun op h => by
    simp only [Option.map_eq_some_iff] at h
    obtain ⟨x, h1, rfl⟩ := h
    rw [oPure_is h1]
    exact ⟨_, rfl, fun h => by rw [← oConds_is]; exact h⟩
  unfold oLook at h
  unfold lookOf
  split at h
  · rename_i c a b
    simp only [oPick] at h
    split at h
    · rename_i gc x ga y gb z e1 e2 e3
      simp only [Option.some.injEq] at h
      subst h
      simp only [aPick, e1, e2, e3, bIf_is]
      refine ⟨_, rfl, fun ⟨h1, h2, h3⟩ => ⟨h1, pIf_is.1 h2, fun hx => pIf_is.1 h3 (by rw [hx]; rfl)⟩⟩
    · rename_i gc x ga y e1 e2 e3
      simp only [Option.some.injEq] at h
      subst h
      have : aPick s c a b = some (gc = true ∧ x = true ∧ ga = true, .c (.sc (.bool y))) := by
        unfold aPick
        rw [e1, e2]
        split
        all_goals first
          | rfl
          | (rename_i f1 f2 f3; cases f1; cases f2; rfl)
          | (rename_i f1 f2 f3; cases f1; cases f3; rfl)
          | (rename_i f1 f2 f3; exact (e3 _ _ f3).elim)
          | (rename_i f1 f2 f3; exact (e3 _ _ f2).elim)
          | (rename_i f1 f2 f3; exact (f1 _ _ _ _ rfl rfl).elim)
          | (rename_i f1 f2 f3; exact (f2 _ _ _ _ rfl rfl).elim)
          | (rename_i f1 f2 f3; exact (f3 _ _ _ _ rfl rfl).elim)
          | (rename_i f1 f2 f3; exact (f1 _ _ _ _ rfl e2).elim)
          | (rename_i f1 f2 f3; exact (f2 _ _ _ _ rfl e2).elim)
          | (rename_i f1 f2 f3; exact (f3 _ _ _ _ rfl e2).elim)
      exact ⟨_, this, id⟩
    · rename_i gc x gb z e1 e2 e3
      simp only [Option.some.injEq] at h
      subst h
      have : aPick s c a b = some (gc = true ∧ x = false ∧ gb = true, .c (.sc (.bool z))) := by
        unfold aPick
        rw [e1, e2]
        split
        all_goals first
          | rfl
          | (rename_i f1 f2 f3; cases f1; cases f2; rfl)
          | (rename_i f1 f2 f3; cases f1; cases f3; rfl)
          | (rename_i f1 f2 f3; exact (e3 _ _ f3).elim)
          | (rename_i f1 f2 f3; exact (e3 _ _ f2).elim)
          | (rename_i f1 f2 f3; exact (f1 _ _ _ _ rfl rfl).elim)
          | (rename_i f1 f2 f3; exact (f2 _ _ _ _ rfl rfl).elim)
          | (rename_i f1 f2 f3; exact (f3 _ _ _ _ rfl rfl).elim)
          | (rename_i f1 f2 f3; exact (f1 _ _ _ _ rfl e2).elim)
          | (rename_i f1 f2 f3; exact (f2 _ _ _ _ rfl e2).elim)
          | (rename_i f1 f2 f3; exact (f3 _ _ _ _ rfl e2).elim)
      exact ⟨_, this, id⟩
    · cases h
  · rename_i hne
    split
    · rename_i e; exact (hne _ _ _ rfl).elim
    · exact pure _ h
theorem oOne_is {o : COp} {s : St} {r : Prop × St} (h : oOne Om.real o s = some r) : ∃ p, runOne o s = some (p, r.2) ∧ (r.1 → p) := by
  unfold oOne at h
  unfold runOne
  cases heff : isEff o.op
  · simp only [heff, Bool.false_eq_true, if_false] at h ⊢
    cases hg : o.g with
    | none =>
      simp only [hg, Option.map_eq_some_iff] at h
      obtain ⟨x, h1, rfl⟩ := h
      obtain ⟨p, h2, h3⟩ := oLook_is h1
      simp only [gval, h2, Option.map_some]
      exact ⟨p, rfl, h3⟩
    | some g =>
      simp only [hg, Option.bind_eq_some_iff, Option.map_eq_some_iff] at h
      obtain ⟨gb, hv, x, h1, rfl⟩ := h
      obtain ⟨p, h2, h3⟩ := oLook_is h1
      simp only [oVal_is hv, h2, Option.map_some]
      exact ⟨_, rfl, fun h hg => h3 (pIf_is.1 h hg)⟩
  · simp only [heff, if_true] at h ⊢
    cases hg : o.g with
    | none =>
      simp only [hg, Option.map_eq_some_iff] at h
      obtain ⟨x, h1, rfl⟩ := h
      obtain ⟨p, h2, h3⟩ := oEff_is h1
      simp only [gval, h2, Option.map_some]
      exact ⟨_, rfl, fun h => ⟨by rw [← oConds_is]; exact h.1, h3 h.2⟩⟩
    | some g =>
      simp only [hg] at h
      cases hst : stillOp o.op with
      | false => simp only [hst] at h; cases h
      | true =>
        simp only [hst, Option.bind_eq_some_iff, Option.map_eq_some_iff] at h
        obtain ⟨gb, hv, x, h1, rfl⟩ := h
        obtain ⟨p, h2, h3⟩ := oEff_is h1
        simp only [oVal_is hv, h2, if_true, Option.map_some]
        exact ⟨_, rfl, fun h hg => ⟨by rw [← oConds_is]; exact (pIf_is.1 h hg).1, h3 (pIf_is.1 h hg).2⟩⟩
end
end
end Go.Den
namespace Go.Den
noncomputable section

inductive KK where
  | nil
  | seq (y : ACode) (k : KK)
  | blk (id : Nat) (k : KK)
inductive Cfg where
  | code (c : ACode)
  | exit (e : AX)
inductive Out where
  | fin (e : AX) (s : St)
  | call (draw grd : Bool) (d : Option Nat) (F : FuncId) (as : List AV) (rest : List Item) (k : KK) (s : St)
  | loop (x : ACode) (k : KK) (s : St)
  | elem (draw grd : Bool) (d : Option Nat) (sz : Nat) (rows : List (List CV)) (i : Int) (rest : List Item) (k : KK) (s : St)
  | bad

/-- An element of a slice that is told by its rows. -/
def elemOf (ω : Om) (o : COp) (s : St) : Option (Prop × Nat × List (List CV) × Int) :=
  match o.op with
  | .iad sz x i =>
    match (strip (s.ev x)).2 with
    | .c (.sl rows) => (intOf? (strip (s.ev i)).2).map fun j => (oConds s [x, i], sz, rows, j)
    | .gs b n => match s.look b with
      | some (.grow sz' _ rows) => (intOf? (strip (s.ev i)).2).map fun j => (oConds s [x, i] ∧ sz' = sz ∧ ω.p fun _ => n ≤ rows.length, sz, ω.r fun _ => rows.take n, j)
      | _ => none
    | _ => none
  | _ => none

def runc (ω : Om) : Nat → Cfg → KK → St → Prop → Prop × Out
  | 0, _, _, _, _ => (False, .bad)
  | n + 1, .exit e, k, s, p =>
    match k with
    | .nil => (p, .fin e s)
    | .seq y k' => (match e with
      | .nrm => runc ω n (.code y) k' s p
      | .exit i => runc ω n (.exit (.exit i)) k' s p
      | .ret => runc ω n (.exit .ret) k' s p)
    | .blk id k' => (match e with
      | .exit i => if i = id then runc ω n (.exit .nrm) k' s p else runc ω n (.exit (.exit i)) k' s p
      | .nrm => runc ω n (.exit .nrm) k' s p
      | .ret => runc ω n (.exit .ret) k' s p)
  | n + 1, .code c, k, s, p =>
    match c with
    | .skip => runc ω n (.exit .nrm) k s p
    | .exit id => runc ω n (.exit (.exit id)) k s p
    | .ret => runc ω n (.exit .ret) k s p
    | .seq x y => runc ω n (.code x) (.seq y k) s p
    | .block id x => runc ω n (.code x) (.blk id k) s p
    | .loop x => (p, .loop x k s)
    | .cond c x y => (match s.ev c with
      | .c (.sc (.bool b)) => (match b with
        | true => runc ω n (.code x) k s p
        | false => runc ω n (.code y) k s p)
      | _ => (False, .bad))
    | .reg draw items => (match items with
      | [] => runc ω n (.exit .nrm) k s p
      | .chk ps :: r => (match chkB s ps with
        | true => runc ω n (.code (.reg draw r)) k s p
        | false => (False, .bad))
      | .seg [] :: r => runc ω n (.code (.reg draw r)) k s p
      | .seg (o :: ops) :: r => (match elemOf ω o s with
        | some (q, sz, rows, i) => (match o.g with
          | none => (p ∧ q, .elem draw false o.dst sz rows i (.seg ops :: r) k s)
          | some _ => (match oVal s o.g with
            | some gb => (match gb with
              | true => (p ∧ q, .elem draw true o.dst sz rows i (.seg ops :: r) k s)
              | false => runc ω n (.code (.reg draw (.seg ops :: r))) k (s.put o.dst (.when false (.c (.sc undef)))) p)
            | none => (False, .bad)))
        | none => (match draw && !xOp o with
          | true => (False, .bad)
          | false => (match oOne ω o s with
            | some (q, s') => runc ω n (.code (.reg draw (.seg ops :: r))) k s' (p ∧ q)
            | none => (match o.g with
              | none => (False, .bad)
              | some _ => (match oVal s o.g with
                | some gb => (match gb with
                  | true => (False, .bad)
                  | false => runc ω n (.code (.reg draw (.seg ops :: r))) k (s.put o.dst (.when false (.c (.sc undef)))) p)
                | none => (False, .bad))))))
      | .call d g f args :: r => (match g with
        | none => (match callee s f args with
          | some (F, as) => (p ∧ oConds s (f :: args), .call draw false d F as r k s)
          | none => (False, .bad))
        | some _ => (match oVal s g with
          | some gb => (match gb with
            | true => (match callee s f args with
              | some (F, as) => (p ∧ oConds s (f :: args), .call draw true d F as r k s)
              | none => (False, .bad))
            | false => runc ω n (.code (.reg draw r)) k (s.put d (.when false (.c (.sc undef)))) p)
          | none => (False, .bad))))

def res (P : Program) : KK → (AX → St → Prop) → AX → St → Prop
  | .nil, Q, e, s => Q e s
  | .seq y k, Q, e, s => (match e with
    | .nrm => awp P y (res P k Q) s
    | e => res P k Q e s)
  | .blk id k, Q, e, s => (match e with
    | .exit i => if i = id then res P k Q .nrm s else res P k Q (.exit i) s
    | e => res P k Q e s)
def Goes (P : Program) (k : KK) (Q : AX → St → Prop) (s : St) : Cfg → Prop
  | .code c => awp P c (res P k Q) s
  | .exit e => res P k Q e s

def gput (grd : Bool) (s : St) (d : Option Nat) (r : AV) : St := s.put d (if grd then .when true r else r)

def Mean (P : Program) (Q : AX → St → Prop) : Out → Prop
  | .fin e s => Q e s
  | .call draw grd d F as rest k s =>
    if draw then ∃ x, PCalls P F as (s.B ++ s.L) x ∧ Goes P k Q (gput grd s d x) (.code (.reg true rest))
    else if grd then ∃ r, PCalls P F as (s.B ++ s.L) r ∧ Goes P k Q (gput true s d r) (.code (.reg false rest))
    else ACalls P F as (s.B ++ s.L) fun r H' => ∃ B' L', H' = B' ++ L' ∧ B'.length = s.B.length ∧ Goes P k Q (St.put { s with B := B', L := L' } d r) (.code (.reg false rest))
  | .loop x k s => awp P (.loop x) (res P k Q) s
  | .elem draw grd d sz rows i rest k s => 0 ≤ i ∧ i < rows.length ∧ (rows.getD i.toNat []).length = sz ∧ Goes P k Q (gput grd s d (.rp [rows.getD i.toNat []] 0 0)) (.code (.reg draw rest))
  | .bad => False

def MeanP (P : Program) (Q : AX → St → Prop) (x : Prop × Out) : Prop := x.1 ∧ Mean P Q x.2

theorem items_one {P : Program} {draw : Bool} {o : COp} {ops : List COp} {r : List Item} {k : KK} {Q : AX → St → Prop} {s s' : St} (hr : oneOk o s s') (he : draw = true → xOp o = true)
    (h : Goes P k Q s' (.code (.reg draw (.seg ops :: r)))) : Goes P k Q s (.code (.reg draw (.seg (o :: ops) :: r))) := by
  simp only [Goes, awp] at h ⊢
  cases draw
  · simp only [Bool.false_eq_true, if_false] at h ⊢
    exact ⟨s', hr, h⟩
  · simp only [if_true] at h ⊢
    exact ⟨by simp only [List.all_cons, he rfl, Bool.true_and]; exact h.1, s', hr, h.2⟩

theorem elem_run {o : COp} {s : St} {q : Prop} {sz : Nat} {rows : List (List CV)} {i : Int} (h : elemOf Om.real o s = some (q, sz, rows, i)) :
    isEff o.op = false ∧ ∃ p, lookOf o.op s = some (p, .rp [rows.getD i.toNat []] 0 0) ∧ (q → 0 ≤ i → i < rows.length → (rows.getD i.toNat []).length = sz → p) := by
  unfold elemOf at h
  split at h
  · rename_i sz' x ix hop
    rw [hop]
    refine ⟨rfl, ?_⟩
    simp only [lookOf, aPure, opds]
    split at h
    · rename_i rows' hx
      simp only [Option.map_eq_some_iff, Prod.mk.injEq] at h
      obtain ⟨j, hj, rfl, rfl, rfl, rfl⟩ := h
      simp only [hx, hj, iadF, Option.map_some]
      exact ⟨_, rfl, fun hq h1 h2 h3 => ⟨by rw [← oConds_is]; exact hq, h1, h2, h3⟩⟩
    · rename_i b n hx
      split at h
      · rename_i sz2 e2 rows2 hb
        simp only [Option.map_eq_some_iff, Prod.mk.injEq] at h
        obtain ⟨j, hj, rfl, rfl, rfl, rfl⟩ := h
        simp only [hx, hj, iadF, hb, Option.map_some]
        refine ⟨_, rfl, fun hq h1 h2 h3 => ⟨by rw [← oConds_is]; exact hq.1, hq.2.1, hq.2.2, h1, ?_⟩⟩
        have h4 : ((rows2.take n).length : Int) ≤ n := by simp; omega
        exact Int.lt_of_lt_of_le h2 h4
      · cases h
    · cases h
  · cases h

theorem elem_still {ω : Om} {o : COp} {s : St} {x : Prop × Nat × List (List CV) × Int} (h : elemOf ω o s = some x) : stillOp o.op = true := by
  unfold elemOf at h
  split at h
  · rename_i hop; rw [hop]; rfl
  · cases h
theorem runc_sound {P : Program} {Q : AX → St → Prop} : ∀ (n : Nat) (cfg : Cfg) (k : KK) (s : St) (p : Prop), MeanP P Q (runc Om.real n cfg k s p) → p ∧ Goes P k Q s cfg
  | 0, _, _, _, _, h => h.1.elim
  | n + 1, .exit e, .nil, s, p, h => h
  | n + 1, .exit e, .seq y k', s, p, h => by
    cases e with
    | nrm => exact runc_sound n (.code y) k' s p h
    | exit i => exact runc_sound n (.exit (.exit i)) k' s p h
    | ret => exact runc_sound n (.exit .ret) k' s p h
  | n + 1, .exit e, .blk id k', s, p, h => by
    cases e with
    | nrm => exact runc_sound n (.exit .nrm) k' s p h
    | exit i =>
      simp only [runc] at h
      simp only [Goes, res]
      split at h
      · rename_i hi
        rw [if_pos hi]
        exact runc_sound n _ _ _ _ h
      · rename_i hi
        rw [if_neg hi]
        exact runc_sound n _ _ _ _ h
    | ret => exact runc_sound n (.exit .ret) k' s p h
  | n + 1, .code .skip, k, s, p, h => runc_sound n (.exit .nrm) k s p h
  | n + 1, .code (.exit id), k, s, p, h => runc_sound n (.exit (.exit id)) k s p h
  | n + 1, .code .ret, k, s, p, h => runc_sound n (.exit .ret) k s p h
  | n + 1, .code (.seq x y), k, s, p, h => by
    simp only [runc] at h
    obtain ⟨h1, h2⟩ := runc_sound n _ _ _ _ h
    refine ⟨h1, ?_⟩
    simp only [Goes, awp] at h2 ⊢
    refine awp_mono x (fun e s hq => ?_) s h2
    cases e <;> exact hq
  | n + 1, .code (.block id x), k, s, p, h => by
    simp only [runc] at h
    obtain ⟨h1, h2⟩ := runc_sound n _ _ _ _ h
    refine ⟨h1, ?_⟩
    simp only [Goes, awp] at h2 ⊢
    refine awp_mono x (fun e s hq => ?_) s h2
    cases e <;> exact hq
  | n + 1, .code (.loop x), k, s, p, h => by
    simp only [runc] at h
    exact h
  | n + 1, .code (.cond c x y), k, s, p, h => by
    simp only [runc] at h
    split at h
    · rename_i b hb
      simp only [Goes, awp]
      cases b
      · obtain ⟨h1, h2⟩ := runc_sound n _ _ _ _ h
        exact ⟨h1, false, hb, (fun h => by cases h), fun _ => h2⟩
      · obtain ⟨h1, h2⟩ := runc_sound n _ _ _ _ h
        exact ⟨h1, true, hb, fun _ => h2, fun h => by cases h⟩
    · exact h.1.elim
  | n + 1, .code (.reg draw []), k, s, p, h => by
    simp only [runc] at h
    obtain ⟨h1, h2⟩ := runc_sound n _ _ _ _ h
    refine ⟨h1, ?_⟩
    simp only [Goes, awp]
    cases draw <;> exact h2
  | n + 1, .code (.reg draw (.chk ps :: r)), k, s, p, h => by
    simp only [runc] at h
    split at h
    · rename_i hc
      obtain ⟨h1, h2⟩ := runc_sound n _ _ _ _ h
      refine ⟨h1, ?_⟩
      simp only [Goes, awp] at h2 ⊢
      cases draw
      · exact h2
      · exact ⟨hc, h2⟩
    · exact h.1.elim
  | n + 1, .code (.reg draw (.seg [] :: r)), k, s, p, h => by
    simp only [runc] at h
    obtain ⟨h1, h2⟩ := runc_sound n _ _ _ _ h
    refine ⟨h1, ?_⟩
    simp only [Goes, awp] at h2 ⊢
    cases draw
    · exact h2
    · exact ⟨rfl, h2⟩
  | n + 1, .code (.reg draw (.seg (o :: ops) :: r)), k, s, p, h => by
    simp only [runc] at h
    split at h
    · rename_i q sz rows i he
      obtain ⟨hneff, pl, hlook, hpl⟩ := elem_run he
      have hstill : xOp o = true := by unfold xOp; rw [elem_still he]; rfl
      have run : ∀ g : Bool, gval s o.g = some g → runOne o s = some (match o.g with | none => (pl, s.put o.dst (.rp [rows.getD i.toNat []] 0 0)) | some _ => (g = true → pl, s.put o.dst (.when g (.rp [rows.getD i.toNat []] 0 0)))) := fun g hg => by
        unfold runOne
        rw [hg]
        simp only [hneff, Bool.false_eq_true, if_false]
        cases o.g with
        | none => simp only [hlook, Option.map_some]
        | some g' => simp only [hlook, Option.map_some]
      cases hg : o.g with
      | none =>
        simp only [hg] at h
        obtain ⟨⟨h1, h2⟩, h3, h4, h5, h6⟩ := h
        have hr := run true (by rw [hg]; rfl)
        rw [hg] at hr
        exact ⟨h1, items_one (.inl ⟨_, hr, hpl h2 h3 h4 h5⟩) (fun _ => hstill) h6⟩
      | some g =>
        simp only [hg] at h
        split at h
        · rename_i gb hgb
          rw [← hg] at hgb
          have hr := run gb (oVal_is hgb)
          rw [hg] at hr
          have hg0 := oVal_is hgb
          cases gb
          · obtain ⟨h1, h2⟩ := runc_sound n _ _ _ _ h
            exact ⟨h1, items_one (.inr ⟨hg0, rfl⟩) (fun _ => hstill) h2⟩
          · obtain ⟨⟨h1, h2⟩, h3, h4, h5, h6⟩ := h
            exact ⟨h1, items_one (.inl ⟨_, hr, fun _ => hpl h2 h3 h4 h5⟩) (fun _ => hstill) h6⟩
        · exact h.1.elim
    · split at h
      · exact h.1.elim
      · rename_i hde
        split at h
        · rename_i q s' ho
          obtain ⟨⟨h1, h2⟩, h3⟩ := runc_sound n _ _ _ _ h
          obtain ⟨pr, hr, hpr⟩ := oOne_is ho
          exact ⟨h1, items_one (.inl ⟨_, hr, hpr h2⟩) (fun hd => by simpa [hd] using hde) h3⟩
        · split at h
          · exact h.1.elim
          · split at h
            · rename_i gb hgb
              cases gb
              · obtain ⟨h1, h2⟩ := runc_sound n _ _ _ _ h
                exact ⟨h1, items_one (.inr ⟨oVal_is hgb, rfl⟩) (fun hd => by simpa [hd] using hde) h2⟩
              · exact h.1.elim
            · exact h.1.elim
  | n + 1, .code (.reg draw (.call d g f args :: r)), k, s, p, h => by
    simp only [runc] at h
    cases g with
    | none =>
      simp only at h
      split at h
      · rename_i F as hc
        obtain ⟨⟨h1, h2⟩, h3⟩ := h
        rw [oConds_is] at h2
        refine ⟨h1, ?_⟩
        simp only [Mean, Goes, awp, gput] at h3 ⊢
        cases draw
        · simp only [Bool.false_eq_true, if_false, aItems, aCallI, aCallU] at h3 ⊢
          exact ⟨F, as, hc, h2, h3⟩
        · simp only [if_true, aItemsQ] at h3 ⊢
          obtain ⟨x, h6, h7⟩ := h3
          exact ⟨true, rfl, x, fun _ => ⟨F, as, hc, h2, h6⟩, h7⟩
      · exact h.1.elim
    | some g =>
      simp only at h
      split at h
      · rename_i gb hgb
        have hgv := oVal_is hgb
        cases gb
        · obtain ⟨h1, h2⟩ := runc_sound n _ _ _ _ h
          refine ⟨h1, ?_⟩
          simp only [Goes, awp] at h2 ⊢
          cases draw
          · simp only [Bool.false_eq_true, if_false, aItems, aCallI, aCallG] at h2 ⊢
            exact ⟨false, hgv, _, (fun h => by cases h), h2⟩
          · simp only [if_true, aItemsQ] at h2 ⊢
            exact ⟨false, hgv, .c (.sc undef), (fun h => by cases h), h2⟩
        · simp only at h
          split at h
          · rename_i F as hc
            obtain ⟨⟨h1, h2⟩, h3⟩ := h
            rw [oConds_is] at h2
            refine ⟨h1, ?_⟩
            simp only [Mean, Goes, awp, gput] at h3 ⊢
            cases draw
            · simp only [Bool.false_eq_true, if_false, if_true, aItems, aCallI, aCallG] at h3 ⊢
              obtain ⟨r', h4, h5⟩ := h3
              exact ⟨true, hgv, r', fun _ => ⟨F, as, hc, h2, h4⟩, h5⟩
            · simp only [if_true, aItemsQ] at h3 ⊢
              obtain ⟨x, h6, h7⟩ := h3
              exact ⟨true, hgv, x, fun _ => ⟨F, as, hc, h2, h6⟩, h7⟩
          · exact h.1.elim
      · exact h.1.elim
end
end Go.Den
namespace Go.Den
noncomputable section

/-! ### Ends -/
def oRes (ω : Om) (s : St) : List RV → Option (Prop × List AV)
  | [] => some (True, [])
  | .tmp t :: r => (oRes ω s r).map fun x => (x.1, s.t.getD t .any :: x.2)
  | .one t :: r => (oPure ω (.ldc (.tmp t)) s.ev s.look).bind fun (y : Prop × AV) => (oRes ω s r).map fun (x : Prop × List AV) => (y.1 ∧ x.1, y.2 :: x.2)
  | .many t n :: r => (oPure ω (.lda n (.tmp t)) s.ev s.look).bind fun (y : Prop × AV) => (oRes ω s r).map fun (x : Prop × List AV) => (y.1 ∧ x.1, y.2 :: x.2)
theorem oRes_is {s : St} : ∀ {l : List RV} {x : Prop × List AV}, oRes Om.real s l = some x → aRes s l = some x
  | [], x, h => h
  | .tmp t :: r, x, h => by
    simp only [oRes, Option.map_eq_some_iff] at h
    obtain ⟨y, h1, rfl⟩ := h
    simp [aRes, oRes_is h1]
  | .one t :: r, x, h => by
    simp only [oRes, Option.bind_eq_some_iff, Option.map_eq_some_iff] at h
    obtain ⟨z, h0, y, h1, rfl⟩ := h
    simp [aRes, oRes_is h1, oPure_is h0]
  | .many t n :: r, x, h => by
    simp only [oRes, Option.bind_eq_some_iff, Option.map_eq_some_iff] at h
    obtain ⟨z, h0, y, h1, rfl⟩ := h
    simp [aRes, oRes_is h1, oPure_is h0]

def frz1 (ω : Om) (s : St) : AV → Option (Prop × AV)
  | .c (.sl rows) => some (True, .c (.sl rows))
  | .c (.sc v) => (match v with
    | .slice none 0 0 => some (True, .c (.sl []))
    | v => some (True, .c (.sc v)))
  | .z0 => some (True, .c (.sl []))
  | .gs b n => (match s.look b with
    | some (.grow _ _ rows) => some (True, .c (.sl (ω.r fun _ => rows.take n)))
    | _ => none)
  | .os b lo l => (match s.look b with
    | some (.mem _ rows) => (match oCloseRows ω s.look ((rows.drop lo).take l) with
      | some r => some (s.B.length ≤ b, .c (.sl r))
      | none => some (True, .any))
    | _ => none)
  | .any => some (True, .any)
  | _ => none
def frz2 (ω : Om) (s : St) : AV → Option (Prop × AV)
  | .op b i off => (match Nat.blt b s.B.length with
    | true => some (True, .op b i off)
    | false => (match s.look b with
      | some (.mem _ rows) => (oCloseRows ω s.look rows).map fun rs => (True, .rp rs i off)
      | _ => none))
  | .rp rows i off => some (True, .rp rows i off)
  | x => frz1 ω s x
def frzL (ω : Om) (s : St) : List AV → Option (Prop × List AV)
  | [] => some (True, [])
  | x :: r => (frz2 ω s x).bind fun y => (frzL ω s r).map fun z => (y.1 ∧ z.1, y.2 :: z.2)
def frzA (ω : Om) (s : St) : AV → Option (Prop × AV)
  | .ag xs => (frzL ω s xs).map fun y => (y.1, .ag y.2)
  | .fn f xs => (frzL ω s xs).map fun y => (y.1, .fn f y.2)
  | x => frz2 ω s x
def frzR (ω : Om) (s : St) : List AV → Option (Prop × List AV)
  | [] => some (True, [])
  | x :: r => (frzA ω s x).bind fun y => (frzR ω s r).map fun z => (y.1 ∧ z.1, y.2 :: z.2)

theorem frz1_is {s : St} {x y : AV} {p : Prop} (h : frz1 Om.real s x = some (p, y)) (hp : p) : Fz1 s.look s.B.length x y := by
  unfold frz1 at h
  split at h
  · cases h; exact .inr (.inl ⟨rfl, trivial⟩)
  · split at h
    · cases h; exact .inr (.inr ⟨[], rfl, rfl, fun _ _ _ h => by cases h⟩)
    · cases h; exact .inr (.inl ⟨rfl, trivial⟩)
  · cases h; exact .inr (.inr ⟨[], rfl, rfl, fun _ _ _ h => by cases h⟩)
  · split at h
    · rename_i hb; cases h; exact .inr (.inr ⟨_, by simp only [rowsOf, hb]; rfl, rfl, fun _ _ _ h => by cases h⟩)
    · cases h
  · split at h
    · rename_i hb
      split at h
      · rename_i r h1
        cases h
        exact .inr (.inr ⟨r, by simp only [rowsOf, hb]; exact h1, rfl, fun _ _ _ h => by cases h; exact hp⟩)
      · cases h; exact .inl rfl
    · cases h
  · cases h; exact .inl rfl
  · cases h
theorem frz2_is {s : St} {x y : AV} {p : Prop} (h : frz2 Om.real s x = some (p, y)) (hp : p) : Fz1 s.look s.B.length x y ∨ FzP s.look s.B.length x y := by
  unfold frz2 at h
  split at h
  · rename_i b i off
    split at h
    · rename_i hlt
      cases h
      exact .inl (.inr (.inl ⟨rfl, Nat.le_of_ble_eq_true hlt⟩))
    · rename_i hlt
      have hle : s.B.length ≤ b := Nat.le_of_not_lt fun h => by
        have : Nat.blt b s.B.length = true := Nat.ble_eq_true_of_le h
        rw [this] at hlt; cases hlt
      split at h
      · rename_i sz rows hl
        simp only [Option.map_eq_some_iff, Prod.mk.injEq] at h
        obtain ⟨rs, h1, rfl, rfl⟩ := h
        exact .inr ⟨b, i, off, sz, rows, rs, rfl, hle, hl, h1, rfl⟩
      · cases h
  · cases h; exact .inl (.inr (.inl ⟨rfl, trivial⟩))
  · exact .inl (frz1_is h hp)
theorem frzL_is {s : St} : ∀ {xs ys : List AV} {p : Prop}, frzL Om.real s xs = some (p, ys) → p → FzL s.look s.B.length xs ys
  | [], ys, p, h, hp => by cases h; trivial
  | x :: r, ys, p, h, hp => by
    simp only [frzL, Option.bind_eq_some_iff, Option.map_eq_some_iff, Prod.mk.injEq] at h
    obtain ⟨⟨p1, y⟩, h1, ⟨p2, z⟩, h2, rfl, rfl⟩ := h
    exact ⟨frz2_is h1 hp.1, frzL_is h2 hp.2⟩
theorem frzA_is {s : St} {x y : AV} {p : Prop} (h : frzA Om.real s x = some (p, y)) (hp : p) : Fz s.look s.B.length x y := by
  unfold frzA at h
  split at h
  · simp only [Option.map_eq_some_iff, Prod.mk.injEq] at h
    obtain ⟨⟨p1, ys⟩, h1, rfl, rfl⟩ := h
    exact .inr (.inl ⟨_, _, rfl, rfl, frzL_is h1 hp⟩)
  · simp only [Option.map_eq_some_iff, Prod.mk.injEq] at h
    obtain ⟨⟨p1, ys⟩, h1, rfl, rfl⟩ := h
    exact .inr (.inr ⟨_, _, _, rfl, rfl, frzL_is h1 hp⟩)
  · exact .inl (frz2_is h hp)
theorem frzR_is {s : St} : ∀ {xs ys : List AV} {p : Prop}, frzR Om.real s xs = some (p, ys) → p → FzR s.look s.B.length xs ys
  | [], ys, p, h, hp => by cases h; trivial
  | x :: r, ys, p, h, hp => by
    simp only [frzR, Option.bind_eq_some_iff, Option.map_eq_some_iff, Prod.mk.injEq] at h
    obtain ⟨⟨p1, y⟩, h1, ⟨p2, z⟩, h2, rfl, rfl⟩ := h
    exact ⟨frzA_is h1 hp.1, frzR_is h2 hp.2⟩

/-- What a function hands back, and what it leaves of the memory that was there. -/
def finR (ω : Om) (rvs : List RV) (e : AX) (s : St) : Option (Prop × AV × List Ent) :=
  match e with
  | .exit _ => none
  | _ => (oRes ω s rvs).bind fun x => (frzR ω s x.2).map fun y => (x.1 ∧ y.1, resOf y.2, s.B)

/-- How a function ends: with a value and memory of which R holds. -/
def EndsR (rvs : List RV) (R : AV → List Ent → Prop) (e : AX) (s : St) : Prop :=
  (match e with | .exit _ => False | _ => True) ∧ ∃ p avs, aRes s rvs = some (p, avs) ∧ p ∧
      ((R (resOf avs) (s.B ++ s.L)) ∨ ∃ ys, FzR s.look s.B.length avs ys ∧ (∀ e ∈ s.B, Ent.und s.B.length e) ∧ R (resOf ys) s.B)

theorem EndsR.of {ω : Om} (hω : ω.Real) {rvs : List RV} {R : AV → List Ent → Prop} {e : AX} {s : St} {p : Prop} {r : AV} {B : List Ent} (h : finR ω rvs e s = some (p, r, B)) (hp : p) (hu : ∀ e ∈ s.B, Ent.und s.B.length e) (hR : R r B) : EndsR rvs R e s := by
  rw [hω.eq] at h
  have key : (∀ i, e ≠ .exit i) → (oRes Om.real s rvs).bind (fun x => (frzR Om.real s x.2).map fun y => (x.1 ∧ y.1, resOf y.2, s.B)) = some (p, r, B) → EndsR rvs R e s := fun he h => by
    simp only [Option.bind_eq_some_iff, Option.map_eq_some_iff, Prod.mk.injEq] at h
    obtain ⟨⟨p1, avs⟩, h1, ⟨p2, ys⟩, h2, rfl, rfl, rfl⟩ := h
    refine ⟨by cases e <;> first | trivial | exact he _ rfl, p1, avs, oRes_is h1, hp.1, .inr ⟨ys, frzR_is h2 hp.2, hu, hR⟩⟩
  cases e with
  | nrm => exact key (fun _ h => by cases h) h
  | exit i => cases h
  | ret => exact key (fun _ h => by cases h) h

/-! ### Beginnings -/
theorem ACalls.run {P : Program} (hm : P.follows .mixedOrders = true) {ω : Om} (hω : ω.Real) {f : FuncId} {ac : ACode} {k : Nat} {rvs : List RV} (hf : FnIs P f ac k rvs) {args : List AV} {H : List Ent} {R : AV → List Ent → Prop}
    (h : (∀ e ∈ H, Ent.und H.length e) → undL H.length args → MeanP P (EndsR rvs R) (runc ω 100000 (.code ac) .nil (start k args H) True)) : ACalls P f args H R := by
  obtain ⟨own, late, fn, c, h1, h2, h3, h4, h5, h6⟩ := hf.is
  refine ACalls.of_awp hm h1 h2 h3 h4 h5 h6 fun hu hua => ?_
  have := h hu hua
  rw [hω.eq] at this
  exact (runc_sound _ _ _ _ _ this).2
theorem PCalls.run {P : Program} (hm : P.follows .mixedOrders = true) {ω : Om} (hω : ω.Real) {f : FuncId} {ac : ACode} {k : Nat} {rvs : List RV} (hf : FnIs P f ac k rvs) {args : List AV} {H : List Ent} {r : AV}
    (h : (∀ e ∈ H, Ent.und H.length e) → undL H.length args → MeanP P (EndsR rvs fun r' H' => r' = r ∧ H' = H) (runc ω 100000 (.code ac) .nil (start k args H) True)) : PCalls P f args H r := ACalls.run hm hω hf h

theorem goes_run {P : Program} {ω : Om} (hω : ω.Real) {Q : AX → St → Prop} {cfg : Cfg} {k : KK} {s : St} (h : MeanP P Q (runc ω 100000 cfg k s True)) : Goes P k Q s cfg := by
  rw [hω.eq] at h
  exact (runc_sound _ _ _ _ _ h).2

/-! ### Calls -/
theorem mean_call {P : Program} {ω : Om} (hω : ω.Real) {Q : AX → St → Prop} {p : Prop} {d : Option Nat} {F : FuncId} {as : List AV} {rest : List Item} {k : KK} {s : St} {r : AV} (hp : p) (hc : PCalls P F as (s.B ++ s.L) r)
    (h : MeanP P Q (runc ω 100000 (.code (.reg false rest)) k (s.put d r) True)) : MeanP P Q (p, .call false false d F as rest k s) := by
  refine ⟨hp, ?_⟩
  simp only [Mean, Bool.false_eq_true, if_false]
  refine ACalls.mono hc ?_
  rintro r' H' ⟨rfl, rfl⟩
  exact ⟨s.B, s.L, rfl, rfl, goes_run hω h⟩
theorem mean_callR {P : Program} {ω : Om} (hω : ω.Real) {Q : AX → St → Prop} {p : Prop} {d : Option Nat} {F : FuncId} {as : List AV} {rest : List Item} {k : KK} {s : St} {R : AV → List Ent → Prop} (hp : p) (hc : ACalls P F as (s.B ++ s.L) R)
    (h : ∀ r H', R r H' → ∃ B' L', H' = B' ++ L' ∧ B'.length = s.B.length ∧ MeanP P Q (runc ω 100000 (.code (.reg false rest)) k (St.put { s with B := B', L := L' } d r) True)) : MeanP P Q (p, .call false false d F as rest k s) := by
  refine ⟨hp, ?_⟩
  simp only [Mean, Bool.false_eq_true, if_false]
  refine ACalls.mono hc fun r H' hr => ?_
  obtain ⟨B', L', h1, h2, h3⟩ := h r H' hr
  exact ⟨B', L', h1, h2, goes_run hω h3⟩
theorem mean_callG {P : Program} {ω : Om} (hω : ω.Real) {Q : AX → St → Prop} {p : Prop} {d : Option Nat} {F : FuncId} {as : List AV} {rest : List Item} {k : KK} {s : St} {r : AV} (hp : p) (hc : PCalls P F as (s.B ++ s.L) r)
    (h : MeanP P Q (runc ω 100000 (.code (.reg false rest)) k (s.put d (.when true r)) True)) : MeanP P Q (p, .call false true d F as rest k s) := by
  refine ⟨hp, ?_⟩
  simp only [Mean, Bool.false_eq_true, if_false, if_true]
  exact ⟨r, hc, goes_run hω h⟩
theorem mean_callQ {P : Program} {ω : Om} (hω : ω.Real) {Q : AX → St → Prop} {p : Prop} {grd : Bool} {d : Option Nat} {F : FuncId} {as : List AV} {rest : List Item} {k : KK} {s : St} {x : AV} (hp : p) (hc : PCalls P F as (s.B ++ s.L) x)
    (h : MeanP P Q (runc ω 100000 (.code (.reg true rest)) k (s.put d (if grd then .when true x else x)) True)) : MeanP P Q (p, .call true grd d F as rest k s) := by
  refine ⟨hp, ?_⟩
  simp only [Mean, if_true]
  exact ⟨x, hc, goes_run hω h⟩
theorem mean_elem {P : Program} {ω : Om} (hω : ω.Real) {Q : AX → St → Prop} {p : Prop} {draw grd : Bool} {d : Option Nat} {sz : Nat} {rows : List (List CV)} {i : Int} {rest : List Item} {k : KK} {s : St} (row : List CV) (hp : p) (h0 : 0 ≤ i) (hr : rows[i.toNat]? = some row) (hl : row.length = sz)
    (h : MeanP P Q (runc ω 100000 (.code (.reg draw rest)) k (s.put d (if grd then .when true (.rp [row] 0 0) else .rp [row] 0 0)) True)) : MeanP P Q (p, .elem draw grd d sz rows i rest k s) := by
  have e : rows.getD i.toNat [] = row := by rw [List.getD_eq_getElem?_getD, hr]; rfl
  have hlt := lt_of_get hr
  refine ⟨hp, h0, by omega, by rw [e]; exact hl, ?_⟩
  rw [e]
  exact goes_run hω h
theorem mean_fin {P : Program} {ω : Om} (hω : ω.Real) {rvs : List RV} {R : AV → List Ent → Prop} {p : Prop} {e : AX} {s : St} {q : Prop} {r : AV} {B : List Ent} (hf : finR ω rvs e s = some (q, r, B)) (hp : p) (hq : q) (hu : ∀ e ∈ s.B, Ent.und s.B.length e) (hR : R r B) :
    MeanP P (EndsR rvs R) (p, .fin e s) := ⟨hp, EndsR.of hω hf hq hu hR⟩

/-! ### Rounds -/
def fgtT (keep : List Nat) : Nat → List AV → List AV
  | _, [] => []
  | j, x :: r => (if keep.contains j then x else .any) :: fgtT keep (j + 1) r
def fgt (keep : List Nat) (nL : Nat) (s : St) : St := { t := fgtT keep 0 s.t, B := s.B, L := s.L.take nL }
def undT (keep : List Nat) (n : Nat) : Nat → List AV → Prop
  | _, [] => True
  | j, x :: r => (if keep.contains j then x.und n else True) ∧ undT keep n (j + 1) r
def undEs (n : Nat) : List Ent → Prop
  | [] => True
  | .grow _ _ _ :: r => undEs n r
  | .mem _ rows :: r => undRows n rows ∧ undEs n r
where undRows (n : Nat) : List (List AV) → Prop
  | [] => True
  | x :: r => undL n x ∧ undRows n r
def FgtOk (keep : List Nat) (nL : Nat) (s : St) : Prop := undT keep (s.B.length + (s.L.take nL).length) 0 s.t ∧ undEs (s.B.length + (s.L.take nL).length) (s.L.take nL)

mutual
theorem und_le {n m : Nat} (h : n ≤ m) : ∀ {x : AV}, x.und n → x.und m
  | .c _, _ => trivial
  | .z0, _ => trivial
  | .gs _ _, hx => Nat.lt_of_lt_of_le hx h
  | .op _ _ _, hx => Nat.lt_of_lt_of_le hx h
  | .rp _ _ _, _ => trivial
  | .os _ _ _, hx => Nat.lt_of_lt_of_le hx h
  | .ag _, hx => undL_le h hx
  | .tu _, hx => undL_le h hx
  | .fn _ _, hx => undL_le h hx
  | .when _ _, hx => fun hg => und_le h (hx hg)
  | .any, _ => trivial
theorem undL_le {n m : Nat} (h : n ≤ m) : ∀ {xs : List AV}, undL n xs → undL m xs
  | [], _ => trivial
  | _ :: _, hx => ⟨und_le h hx.1, undL_le h hx.2⟩
end
theorem undEs_is {n : Nat} : ∀ {l : List Ent}, undEs n l → ∀ e ∈ l, Ent.und n e
  | [], _, e, he => by cases he
  | .grow _ _ _ :: r, h, e, he => by
    cases he with
    | head => trivial
    | tail _ he => exact undEs_is (l := r) h e he
  | .mem _ rows :: r, h, e, he => by
    cases he with
    | head =>
      have go : ∀ (rows : List (List AV)), undEs.undRows n rows → ∀ row ∈ rows, undL n row := by
        intro rows
        induction rows with
        | nil => intro _ row hr; cases hr
        | cons x rows ih =>
          intro h row hr
          cases hr with
          | head => exact h.1
          | tail _ hr => exact ih h.2 row hr
      exact go rows h.1
    | tail _ he => exact undEs_is h.2 e he
theorem fgtT_le {lk : Nat → Option Ent} {n : Nat} {keep : List Nat} : ∀ (t : List AV) (j : Nat), undT keep n j t → LeL lk n t (fgtT keep j t)
  | [], _, _ => trivial
  | x :: r, j, h => by
    simp only [undT, fgtT] at h ⊢
    refine ⟨?_, fgtT_le r (j + 1) h.2⟩
    split
    · rename_i hk
      rw [if_pos hk] at h
      exact .inr (.inl ⟨rfl, h.1⟩)
    · exact .inl rfl
theorem fgt_weak {keep : List Nat} {nL : Nat} {s : St} (hB : ∀ e ∈ s.B, Ent.und s.B.length e) (h : FgtOk keep nL s) : Weak s (fgt keep nL s) where
  B := rfl
  L := by
    show s.L.take nL = s.L.take (s.L.take nL).length
    rw [List.length_take]
    by_cases hh : nL ≤ s.L.length
    · rw [Nat.min_eq_left hh]
    · rw [Nat.min_eq_right (by omega), List.take_of_length_le (by omega), List.take_of_length_le (Nat.le_refl _)]
  t := fgtT_le _ _ h.1
  e := fun e he => by
    rcases List.mem_append.1 he with he | he
    · have := hB e he
      cases e with
      | grow _ _ _ => trivial
      | mem _ rows => exact fun row hr => undL_le (Nat.le_add_right _ _) (this row hr)
    · exact undEs_is h.2 e he

/-- Rows of blocks forgotten: of each block (by its place among the last), these rows. -/
def blankRow (r : Nat) : Ent → Ent
  | .mem sz rows => .mem sz (rows.set r ((rows.getD r []).map fun _ => .any))
  | e => e
def blankL : List (Nat × Nat) → List Ent → List Ent
  | [], L => L
  | x :: wk, L => blankL wk (match L[x.1]? with | some e => L.set x.1 (blankRow x.2 e) | none => L)
def blank (wk : List (Nat × Nat)) (s : St) : St := { s with L := blankL wk s.L }
theorem LeE.trans {a b c : Ent} (h : LeE a b) (g : LeE b c) : LeE a c := by
  rcases h with rfl | ⟨sz, r1, r2, rfl, rfl, h1, h2⟩
  · exact g
  · rcases g with rfl | ⟨sz', r2', r3, e, rfl, g1, g2⟩
    · exact .inr ⟨sz, r1, r2, rfl, rfl, h1, h2⟩
    · cases e
      refine .inr ⟨sz, r1, r3, rfl, rfl, g1.trans h1, fun i row hr => ?_⟩
      obtain ⟨row2, q1, q2, q3⟩ := g2 i row hr
      obtain ⟨row1, p1, p2, p3⟩ := h2 i row2 q1
      refine ⟨row1, p1, q2.trans p2, fun j x hx => ?_⟩
      rcases q3 j x hx with h | h
      · exact .inl h
      · exact p3 j x h
theorem blankRow_le (r : Nat) (e : Ent) : LeE e (blankRow r e) := by
  cases e with
  | grow _ _ _ => exact .inl rfl
  | mem sz rows =>
    refine .inr ⟨sz, rows, _, rfl, rfl, by simp, fun i row' hr => ?_⟩
    rw [List.getElem?_set] at hr
    split at hr
    · rename_i hri
      subst hri
      split at hr
      · rename_i hlt
        cases hr
        have h1 : rows[r]? = some rows[r] := by rw [List.getElem?_eq_getElem]
        refine ⟨rows[r], h1, by simp [hlt], fun j a ha => .inl ?_⟩
        simp only [List.getElem?_map, Option.map_eq_some_iff] at ha
        obtain ⟨_, _, rfl⟩ := ha
        rfl
      · cases hr
    · exact ⟨row', hr, rfl, fun j a ha => .inr ha⟩
theorem blankL_le : ∀ (wk : List (Nat × Nat)) (L : List Ent), (blankL wk L).length = L.length ∧ ∀ (b : Nat) e e', L[b]? = some e → (blankL wk L)[b]? = some e' → LeE e e'
  | [], L => ⟨rfl, fun b e e' h h' => by rw [blankL, h] at h'; cases h'; exact .inl rfl⟩
  | x :: wk, L => by
    unfold blankL
    split
    · rename_i ex hx
      obtain ⟨h1, h2⟩ := blankL_le wk (L.set x.1 (blankRow x.2 ex))
      refine ⟨by rw [h1, List.length_set], fun b e e' h h' => ?_⟩
      by_cases hb : x.1 = b
      · have hlt := lt_of_get h
        have hxe : ex = e := by rw [hb, h] at hx; cases hx; rfl
        subst hxe
        exact (blankRow_le x.2 ex).trans (h2 b _ e' (by rw [List.getElem?_set, if_pos hb, if_pos (by omega)]) h')
      · exact h2 b e e' (by rw [List.getElem?_set, if_neg hb]; exact h) h'
    · exact blankL_le wk L
theorem blank_weak (wk : List (Nat × Nat)) (s : St) : Weak2 s (blank wk s) := ⟨rfl, rfl, (blankL_le wk s.L).1, (blankL_le wk s.L).2⟩
/-- A loop. -/
theorem loop_rule {P : Program} {x : ACode} {Q : AX → St → Prop} {s : St} (keep : List Nat) (nL : Nat) (I : Nat → St → Prop) (hB : ∀ e ∈ s.B, Ent.und s.B.length e) (hw : FgtOk keep nL s) (n0 : Nat) (h0 : I n0 (fgt keep nL s))
    (hr : ∀ n s, I n s → awp P x (fun e s' => match e with | .nrm => (∀ e ∈ s'.B, Ent.und s'.B.length e) ∧ ∃ wk, FgtOk keep nL (blank wk s') ∧ ∃ m, m < n ∧ I m (fgt keep nL (blank wk s')) | e => Q e s') s) : awp P (.loop x) Q s := by
  have wk0 : ∀ s : St, Weak2 s s := fun s => ⟨rfl, rfl, rfl, fun b e e' h h' => by rw [h] at h'; cases h'; exact .inl rfl⟩
  refine ⟨I, ⟨n0, _, .inr ⟨s, wk0 s, fgt_weak hB hw⟩, h0⟩, fun n s hI => awp_mono x (fun e s' h => ?_) s (hr n s hI)⟩
  cases e with
  | nrm =>
    obtain ⟨h1, wk, h2, m, h3, h4⟩ := h
    exact ⟨m, _, h3, .inr ⟨_, blank_weak wk s', fgt_weak (s := blank wk s') h1 h2⟩, h4⟩
  | exit i => exact h
  | ret => exact h

/-- A list of slots that is mostly forgotten. -/
def slots (k : Nat) (l : List (Nat × AV)) : List AV := (List.range k).map fun j => (l.lookup j).getD .any
end
end Go.Den
namespace Go.Den
noncomputable section

theorem shields : ∃ i b p s n r m, (Om.mk i b p s n r m).Real := ⟨_, _, _, _, _, _, _, Om.real_is⟩

/-- Some answer v of which F holds, and the walk ends with it. -/
def MeanE {α : Type} (P : Program) (F : α → Prop) (Q : α → AX → St → Prop) (x : Prop × Out) : Prop := ∃ v, F v ∧ MeanP P (Q v) x
theorem PCalls.runE {P : Program} (hm : P.follows .mixedOrders = true) {ω : Om} (hω : ω.Real) {f : FuncId} {ac : ACode} {k : Nat} {rvs : List RV} (hf : FnIs P f ac k rvs) {args : List AV} {H : List Ent} {α : Type} {F : α → Prop} {r : α → AV}
    (h : MeanE P F (fun v => EndsR rvs fun r' H' => r' = r v ∧ H' = H) (runc ω 100000 (.code ac) .nil (start k args H) True)) : ∃ v, F v ∧ PCalls P f args H (r v) := by
  obtain ⟨v, hv, h⟩ := h
  exact ⟨v, hv, PCalls.run hm hω hf fun _ _ => h⟩
section
variable {P : Program} {ω : Om} {α : Type} {F : α → Prop} {Q : α → AX → St → Prop}
theorem meanE_call (hω : ω.Real) {p : Prop} {d : Option Nat} {f : FuncId} {as : List AV} {rest : List Item} {k : KK} {s : St} {r : AV} (hc : PCalls P f as (s.B ++ s.L) r) (hp : p)
    (h : MeanE P F Q (runc ω 100000 (.code (.reg false rest)) k (s.put d r) True)) : MeanE P F Q (p, .call false false d f as rest k s) := by
  obtain ⟨v, hv, h⟩ := h
  exact ⟨v, hv, mean_call hω hp hc h⟩
theorem meanE_callG (hω : ω.Real) {p : Prop} {d : Option Nat} {f : FuncId} {as : List AV} {rest : List Item} {k : KK} {s : St} {r : AV} (hc : PCalls P f as (s.B ++ s.L) r) (hp : p)
    (h : MeanE P F Q (runc ω 100000 (.code (.reg false rest)) k (s.put d (.when true r)) True)) : MeanE P F Q (p, .call false true d f as rest k s) := by
  obtain ⟨v, hv, h⟩ := h
  exact ⟨v, hv, mean_callG hω hp hc h⟩
theorem meanE_callQ (hω : ω.Real) {p : Prop} {grd : Bool} {d : Option Nat} {f : FuncId} {as : List AV} {rest : List Item} {k : KK} {s : St} {x : AV} (hc : PCalls P f as (s.B ++ s.L) x) (hp : p)
    (h : MeanE P F Q (runc ω 100000 (.code (.reg true rest)) k (s.put d (if grd then .when true x else x)) True)) : MeanE P F Q (p, .call true grd d f as rest k s) := by
  obtain ⟨w, hv, h⟩ := h
  exact ⟨w, hv, mean_callQ hω hp hc h⟩
theorem meanE_elem (hω : ω.Real) {p : Prop} {draw grd : Bool} {d : Option Nat} {sz : Nat} {rows : List (List CV)} {i : Int} {rest : List Item} {k : KK} {s : St} (row : List CV) (h0 : 0 ≤ i) (hr : rows[i.toNat]? = some row) (hl : row.length = sz) (hp : p)
    (h : MeanE P F Q (runc ω 100000 (.code (.reg draw rest)) k (s.put d (if grd then .when true (.rp [row] 0 0) else .rp [row] 0 0)) True)) : MeanE P F Q (p, .elem draw grd d sz rows i rest k s) := by
  obtain ⟨w, hv, h⟩ := h
  exact ⟨w, hv, mean_elem hω row hp h0 hr hl h⟩
theorem meanE_fin (hω : ω.Real) {rvs : List RV} {R : α → AV → List Ent → Prop} {p : Prop} {e : AX} {s : St} {q : Prop} {r : AV} {B : List Ent} (v : α) (hf : finR ω rvs e s = some (q, r, B)) (hR : R v r B) (hv : F v) (hu : ∀ e ∈ s.B, Ent.und s.B.length e) (hp : p) (hq : q) :
    MeanE P F (fun v => EndsR rvs (R v)) (p, .fin e s) := ⟨v, hv, mean_fin hω hf hp hq hu hR⟩
end

/-! ### Loops in such walks: a round goes on, or the answer is found behind it -/
def RoundF {α : Type} (F : α → Prop) (N i : Nat) (ok : Nat → Prop) : Option α → Prop
  | none => i < N ∧ ok i
  | some v => F v
def RoundQ {α : Type} (P : Program) (Q : α → AX → St → Prop) (k : KK) (keep : List Nat) (nL : Nat) (next : St) : Option α → AX → St → Prop
  | none, e, s => e = .nrm ∧ (∀ e ∈ s.B, Ent.und s.B.length e) ∧ ∃ wk, FgtOk keep nL (blank wk s) ∧ fgt keep nL (blank wk s) = next
  | some v, e, s => e ≠ .nrm ∧ res P k (Q v) e s
theorem round_next {P : Program} {α : Type} {F : α → Prop} {Q : α → AX → St → Prop} {k : KK} {keep : List Nat} {nL : Nat} {next : St} {N i : Nat} {ok : Nat → Prop} {p : Prop} {s : St}
    (hf : fgt keep nL s = next) (hi : i < N) (hok : ok i) (hB : ∀ e ∈ s.B, Ent.und s.B.length e) (hw : FgtOk keep nL s) (hp : p) : MeanE P (RoundF F N i ok) (RoundQ P Q k keep nL next) (p, .fin .nrm s) :=
  ⟨none, ⟨hi, hok⟩, hp, rfl, hB, [], hw, hf⟩
theorem round_out {P : Program} {ω : Om} (hω : ω.Real) {α : Type} {F : α → Prop} {Q : α → AX → St → Prop} {k : KK} {keep : List Nat} {nL : Nat} {next : St} {N i : Nat} {ok : Nat → Prop} {p : Prop} {e : AX} {s : St}
    (h : MeanE P F Q (runc ω 100000 (.exit e) k s True)) (he : e ≠ .nrm) (hp : p) : MeanE P (RoundF F N i ok) (RoundQ P Q k keep nL next) (p, .fin e s) := by
  obtain ⟨v, hv, h⟩ := h
  exact ⟨some v, hv, hp, he, goes_run hω h⟩
theorem meanE_loop {P : Program} {ω : Om} (hω : ω.Real) {α : Type} {F : α → Prop} {Q : α → AX → St → Prop} {p : Prop} {x : ACode} {k : KK} {s : St} (keep : List Nat) (nL N : Nat) (ok : Nat → Prop) (hd : Nat → St)
    (h0 : fgt keep nL s = hd 0) (hB : ∀ e ∈ s.B, Ent.und s.B.length e) (hw : FgtOk keep nL s) (hp : p)
    (h : ∀ i, i ≤ N → (∀ j, j < i → ok j) → MeanE P (RoundF F N i ok) (RoundQ P Q k keep nL (hd (i + 1))) (runc ω 100000 (.code x) .nil (hd i) True)) : MeanE P F Q (p, .loop x k s) := by
  have key : ∀ m i, N - i = m → i ≤ N → (∀ j, j < i → ok j) → ∃ v, F v ∧ ∃ (n0 : Nat) (T : Nat → St → Prop), T n0 (hd i) ∧
      (∀ n s, T n s → n ≤ n0 ∧ awp P x (fun e s' => match e with | .nrm => (∀ e ∈ s'.B, Ent.und s'.B.length e) ∧ ∃ wk, FgtOk keep nL (blank wk s') ∧ ∃ m, m < n ∧ T m (fgt keep nL (blank wk s')) | e => res P k (Q v) e s') s) := by
    intro m
    induction m with
    | zero =>
      intro i hm hi hok
      obtain ⟨o, ho, h1⟩ := h i hi hok
      have hgo := goes_run hω h1
      cases o with
      | none => exact absurd ho.1 (by omega)
      | some v =>
        refine ⟨v, ho, 0, fun n t => n = 0 ∧ t = hd i, ⟨rfl, rfl⟩, ?_⟩
        rintro n t ⟨rfl, rfl⟩
        refine ⟨Nat.le_refl _, awp_mono x (fun e s' hq => ?_) _ hgo⟩
        obtain ⟨he, hq⟩ := hq
        cases e with
        | nrm => exact absurd rfl he
        | exit i => exact hq
        | ret => exact hq
    | succ m ih =>
      intro i hm hi hok
      obtain ⟨o, ho, h1⟩ := h i hi hok
      have hgo := goes_run hω h1
      cases o with
      | some v =>
        refine ⟨v, ho, 0, fun n t => n = 0 ∧ t = hd i, ⟨rfl, rfl⟩, ?_⟩
        rintro n t ⟨rfl, rfl⟩
        refine ⟨Nat.le_refl _, awp_mono x (fun e s' hq => ?_) _ hgo⟩
        obtain ⟨he, hq⟩ := hq
        cases e with
        | nrm => exact absurd rfl he
        | exit i => exact hq
        | ret => exact hq
      | none =>
        obtain ⟨v, hv, n0, T, hT0, hT⟩ := ih (i + 1) (by omega) (by omega) fun j hj => by
          by_cases hji : j = i
          · subst hji; exact ho.2
          · exact hok j (by omega)
        refine ⟨v, hv, n0 + 1, fun n t => T n t ∨ (n = n0 + 1 ∧ t = hd i), .inr ⟨rfl, rfl⟩, ?_⟩
        rintro n t (ht | ⟨rfl, rfl⟩)
        · obtain ⟨hn, ha⟩ := hT n t ht
          refine ⟨by omega, awp_mono x (fun e s' hq => ?_) _ ha⟩
          cases e with
          | nrm =>
            obtain ⟨a, wk, b, m', c, d⟩ := hq
            exact ⟨a, wk, b, m', c, .inl d⟩
          | exit i => exact hq
          | ret => exact hq
        · refine ⟨Nat.le_refl _, awp_mono x (fun e s' hq => ?_) _ hgo⟩
          obtain ⟨he, hB', wk, hw', hf⟩ := hq
          subst he
          exact ⟨hB', wk, hw', n0, by omega, .inl (by rw [hf]; exact hT0)⟩
  obtain ⟨v, hv, n0, T, hT0, hT⟩ := key N 0 (by omega) (by omega) fun j hj => by omega
  refine ⟨v, hv, hp, ?_⟩
  exact loop_rule keep nL T hB hw n0 (by rw [h0]; exact hT0) fun n s ht => (hT n s ht).2

theorem und_mono0 {n m : Nat} (h : n ≤ m) {e : Ent} (he : Ent.und n e) : Ent.und m e := by
  cases e with
  | grow _ _ _ => trivial
  | mem _ rows => exact fun row hr => undL_le h (he row hr)

/-- A call that needs nothing of the memory that is there needs nothing of any memory. -/
theorem PCalls.any {P : Program} {f : FuncId} {as : List AV} {r : AV} (h : PCalls P f as [] r) (hu : undL 0 as) (hr : r.und 0) (H : List Ent) : PCalls P f as H r := by
  classical
  refine ⟨h.1, fun C vals hh hH hl => ?_⟩
  subst hH
  let C1 : Cx := { C with H := [] }
  have hl1 : RelL C1 as vals.toList := undL_rel (C := C) (C' := C1) (n := 0) (fun a v h => h) (fun b hb => by omega) (fun b hb => by omega) hu hl
  refine (h.2 C1 vals ⟨fun b e hb => by simp [C1] at hb, fun b b' e e' k _ hb => by simp [C1] at hb⟩ rfl hl1).mono fun e w' ⟨v, C', r', he, hw, hn, hh', hrel, hR⟩ => ?_
  obtain ⟨rfl, hH'⟩ := hR
  let C2 : Cx := { w := w', S := fun k => if (∃ b e, C.H[b]? = some e ∧ blockOf (C.β b) = some k) then C.S k else C'.S k, β := C.β, H := C.H }
  have hsame : ∀ k, k < C.w.heap.size → w'.heap[k]? = C.w.heap[k]? ∧ C'.S k = C.S k := fun k hk => by
    rw [← hw]
    exact hn.frame k hk fun b e hb => by simp [C1] at hb
  have hS : ∀ k, k < C.w.heap.size → C2.S k = C.S k := fun k hk => by
    show (if _ then C.S k else C'.S k) = C.S k
    split
    · rfl
    · exact (hsame k hk).2
  have hS2 : ∀ k, (∃ b e, C.H[b]? = some e ∧ blockOf (C.β b) = some k) → k < C.w.heap.size := fun k ⟨b, e, h1, h2⟩ => (hh.ent b e h1).block h2
  have hSC : ∀ k, C2.S k = C'.S k := fun k => by
    show (if _ then C.S k else C'.S k) = C'.S k
    split
    · rename_i hx; exact ((hsame k (hS2 k hx)).2).symm
    · rfl
  have hrd : ∀ a v, C'.rd a = some v → C2.rd a = some v := fun a v ha => by
    have h1 : C2.rd a = C'.rd a := by
      simp only [Cx.rd, hSC]
      show (if _ then w'.cell? a else none) = _
      rw [hw]
    rw [h1]; exact ha
  have hn2 : Nxt C C2 := {
    os := by show w'.os = _; rw [← hw]; exact hn.os
    tape := by show w'.tape = _; rw [← hw]; exact hn.tape
    output := by show w'.output = _; rw [← hw]; exact hn.output
    size := by show _ ≤ w'.heap.size; rw [← hw]; exact hn.size
    rd := fun a v ha => hrd a v (hn.rd a v ha)
    len := Nat.le_refl _
    mem := fun b sz rows hb _ => ⟨rows, hb, rfl, rfl⟩
    grow := fun b sz e rows hb _ => ⟨rows, [], hb, by simp, fun _ => rfl⟩
    frame := fun k hk _ => ⟨(hsame k hk).1, hS k hk⟩
    frz := fun a => by show w'.frozen? a = _; rw [← hw]; exact hn.frz a
    own := fun b e k hb hk => .inr ⟨e, hb, hk⟩ }
  refine ⟨v, C2, r', he, rfl, hn2, ⟨fun b e hb => ?_, hh.inj⟩, ?_, rfl, rfl⟩
  · exact (hh.ent b e hb).keep hn2 rfl fun k hk => ⟨(hsame k ((hh.ent b e hb).block hk)).1, hS k ((hh.ent b e hb).block hk)⟩
  · exact und_rel (n := 0) hrd (fun b hb => by omega) (fun b hb => by omega) hr hrel
end
end Go.Den
namespace Go.Den

def lenB (sz : Nat) (rows : List (List CV)) : Bool := rows.all fun r => r.length == sz
theorem lenB_is {sz : Nat} {rows : List (List CV)} (h : lenB sz rows = true) : ∀ (i : Nat) row, rows[i]? = some row → row.length = sz := fun i row hr => by
  have := List.all_eq_true.1 h row (List.mem_of_getElem? hr)
  simpa using this
def rowB (sz : Nat) (rows : List (List CV)) : Bool := rows.all fun r => r.length == sz && r.all CV.one
theorem rowB_is {sz : Nat} {rows : List (List CV)} (h : rowB sz rows = true) : ∀ (i : Nat) row, rows[i]? = some row → row.length = sz ∧ row.all CV.one = true := fun i row hr => by
  have := List.all_eq_true.1 h row (List.mem_of_getElem? hr)
  simpa using this

def dInt (op : BinOp) (b : Int) : Bool :=
  match op with
  | .quo | .rem => !(b == 0)
  | .shl | .shr => decide (0 ≤ b)
  | _ => true
theorem dInt_is {op : BinOp} {k : IntKind} {a b : Int} (h : dInt op b = true) : (intBin op k a b).1 := by
  cases op <;> simp_all [dInt, intBin]
def dStr (op : BinOp) (x y : ByteArray) : Bool :=
  match op with
  | .add => decide (((x.size + y.size : Nat) : Int) ≤ 9223372036854775807)
  | .eql | .neq | .lss | .leq | .gtr | .geq => true
  | _ => false
theorem dStr_is {op : BinOp} {a b : ByteArray} (h : dStr op a b = true) : (strBin op a b).1 := by
  cases op <;> simp_all [dStr, strBin] <;> omega

def loOf : Option AV → Option Int
  | none => some 0
  | some a => intOf? a
def hiOf (n : Int) : Option AV → Option Int
  | none => some n
  | some a => intOf? a
theorem loOf_is {x : Option AV} {l : Int} (h : (match x with | none => some 0 | some a => intOf? a) = some l) : loOf x = some l := by cases x <;> exact h
theorem hiOf_is {n : Int} {x : Option AV} {l : Int} (h : (match x with | none => some n | some a => intOf? a) = some l) : hiOf n x = some l := by cases x <;> exact h
/-- What must hold before an operation that looks. -/
def dPre (op : MOp) (ev : Opd → AV) (lk : Nat → Option Ent) : Bool :=
  match op with
  | .ldc x =>
    match ev x with
    | .op b i off => match lk b with
      | some (.mem _ rows) => decide (i < rows.length) && decide (off < (rows.getD i []).length)
      | _ => false
    | .rp rows i off => decide (i < rows.length) && decide (off < (rows.getD i []).length)
    | _ => false
  | .lda n x =>
    match ev x with
    | .op b i off => match lk b with
      | some (.mem _ rows) => decide (i < rows.length) && decide (off + n ≤ (rows.getD i []).length)
      | _ => false
    | .rp rows i off => decide (i < rows.length) && decide (off + n ≤ (rows.getD i []).length)
    | _ => false
  | .bin op x y =>
    match ev x, ev y with
    | .c (.sc (.int _ _)), .c (.sc (.int _ b)) => dInt op b
    | .c (.sc (.string a)), .c (.sc (.string b)) => dStr op a b
    | _, _ => false
  | .b2s x => (match rowsOf lk (ev x) with
    | some rows => rows.all isByteRow
    | none => false)
  | .slc sz x lo hi mx =>
    match lo.map ev, hi.map ev, mx.map ev with
    | none, some (.c (.sc (.int _ 0))), some (.c (.sc (.int _ 0))) | some (.c (.sc (.int _ 0))), some (.c (.sc (.int _ 0))), some (.c (.sc (.int _ 0))) => true
    | lo', hi', none =>
      match ev x with
      | .os b l n =>
        match lk b with
        | some (.mem sz' _) => (match loOf lo', hiOf n hi' with
          | some l', some h' => sz' == sz && decide (0 ≤ l') && decide (l' < h') && decide (h' ≤ n)
          | _, _ => false)
        | _ => false
      | a => (match rowsOf lk a with
        | some rows => (match loOf lo', hiOf rows.length hi' with
          | some l, some h => lenB sz rows && decide (0 ≤ l) && decide (l ≤ h) && decide (h ≤ rows.length)
          | _, _ => false)
        | none => false)
    | _, _, _ => false
  | .sls x lo hi =>
    match ev x with
    | .c (.sc (.string s)) => (match loOf (lo.map ev), hiOf s.size (hi.map ev) with
      | some l, some h => decide (0 ≤ l) && decide (l ≤ h) && decide (h ≤ s.size)
      | _, _ => false)
    | _ => false
  | .fld off n x =>
    match ev x with
    | .ag cs => match n with
      | some n => decide (off + n ≤ cs.length)
      | none => decide (off < cs.length)
    | _ => false
  | .iad sz x i =>
    match intOf? (ev i) with
    | none => false
    | some i => match ev x with
      | .c (.sl rows) => decide (0 ≤ i) && decide (i < rows.length) && (rows.getD i.toNat []).length == sz
      | .gs b n => match lk b with
        | some (.grow sz' _ rows) => sz' == sz && decide (n ≤ rows.length) && decide (0 ≤ i) && decide (i < n)
        | _ => false
      | .os b lo n => match lk b with
        | some (.mem sz' _) => sz' == sz && decide (0 ≤ i) && decide (i < n)
        | _ => false
      | _ => false
  | .iaa n _ _ i =>
    match intOf? (ev i) with
    | none => false
    | some i => decide (0 ≤ i) && decide (i < n)
  | .ixs x i =>
    match ev x, intOf? (ev i) with
    | .c (.sc (.string s)), some i => decide (0 ≤ i) && decide (i < s.size)
    | _, _ => false
  | .ext x i =>
    match ev x with
    | .tu vs => decide (i < vs.length)
    | _ => false
  | .len x =>
    match ev x with
    | .gs b n => match lk b with
      | some (.grow _ _ rows) => decide (n ≤ rows.length)
      | _ => false
    | _ => true
  | _ => true

theorem dPre_is {op : MOp} {ev : Opd → AV} {lk : Nat → Option Ent} {p : Prop} {av : AV} (h : aPure op ev lk = some (p, av)) (hb : dPre op ev lk = true) : p := by
  cases op
  case slc sz x lo hi mx =>
    simp only [aPure, dPre] at h hb
    generalize lo.map ev = lo' at *
    generalize hi.map ev = hi' at *
    generalize mx.map ev = mx' at *
    split at h
    · split at h <;> simp at h <;> exact h.1
    · split at h <;> simp at h <;> exact h.1
    · split at hb
      · rename_i hx; cases hx
      · rename_i hx; cases hx
      · split at h
        · rename_i b l n hev
          simp only [hev] at hb
          split at h
          · rename_i sz' rows hlk
            simp only [hlk] at hb
            simp only [Option.bind_eq_some_iff, Option.map_eq_some_iff, Prod.mk.injEq] at h
            obtain ⟨l', hl', h', hh', rfl, rfl⟩ := h
            simp only [loOf_is hl', hiOf_is hh'] at hb
            simp at hb
            exact ⟨hb.1.1.1, hb.1.1.2, hb.1.2, hb.2⟩
          · cases h
        · rename_i a hev
          split at hb
          · rename_i hx; exact absurd hx (hev _ _ _)
          simp only [Option.bind_eq_some_iff, Option.map_eq_some_iff, Prod.mk.injEq] at h
          obtain ⟨rows, hr, l', hl', h', hh', rfl, rfl⟩ := h
          simp only [hr, loOf_is hl', hiOf_is hh'] at hb
          simp at hb
          exact ⟨lenB_is hb.1.1.1, hb.1.1.2, hb.1.2, hb.2⟩
      · cases hb
    · cases h
  case bin op x y =>
    simp only [aPure, dPre] at h hb
    split at h
    · rename_i hx hy
      simp only [hx, hy] at hb
      split at h
      · simp only [Option.some.injEq, Prod.mk.injEq] at h
        obtain ⟨rfl, _⟩ := h
        exact dInt_is hb
      · cases h
    · rename_i hx hy
      simp only [hx, hy] at hb
      simp only [Option.some.injEq, Prod.mk.injEq] at h
      obtain ⟨rfl, _⟩ := h
      exact dStr_is hb
    · cases h
  case iad sz x i =>
    simp only [aPure, dPre] at h hb
    split at h
    · cases h
    · rename_i i' hi
      simp only [hi] at hb
      unfold iadF at h
      split at h
      · rename_i hx
        simp only [hx] at hb
        simp only [Option.some.injEq, Prod.mk.injEq] at h
        obtain ⟨rfl, _⟩ := h
        simpa [and_assoc] using hb
      · rename_i hx
        simp only [hx] at hb
        split at h
        · rename_i hlk
          simp only [hlk] at hb
          simp only [Option.some.injEq, Prod.mk.injEq] at h
          obtain ⟨rfl, _⟩ := h
          simpa [and_assoc] using hb
        · cases h
      · rename_i hx
        simp only [hx] at hb
        split at h
        · rename_i hlk
          simp only [hlk] at hb
          simp only [Option.some.injEq, Prod.mk.injEq] at h
          obtain ⟨rfl, _⟩ := h
          simpa [and_assoc] using hb
        · cases h
      · cases h
  case iaa n sz x i =>
    simp only [aPure, dPre] at h hb
    split at h
    · cases h
    · rename_i i' hi
      simp only [hi] at hb
      unfold iaaF at h
      split at h
      · split at h
        · simp only [Option.some.injEq, Prod.mk.injEq] at h
          obtain ⟨rfl, _⟩ := h
          simpa [and_assoc] using hb
        · cases h
      · simp only [Option.some.injEq, Prod.mk.injEq] at h
        obtain ⟨rfl, _⟩ := h
        simpa [and_assoc] using hb
      · cases h
  case b2s x =>
    simp only [aPure, dPre, Option.map_eq_some_iff, Prod.mk.injEq] at h hb
    obtain ⟨rows, hr, rfl, _⟩ := h
    simpa [hr] using hb
  case build z parts =>
    simp only [aPure, Option.map_eq_some_iff, Prod.mk.injEq] at h
    obtain ⟨_, _, rfl, _⟩ := h
    trivial
  case eqa neg ks x y =>
    simp only [aPure] at h
    split at h
    · simp only [Option.map_eq_some_iff, Prod.mk.injEq] at h
      obtain ⟨_, _, rfl, _⟩ := h
      trivial
    · cases h
  case sls x lo hi =>
    simp only [aPure, dPre] at h hb
    generalize lo.map ev = lo' at *
    generalize hi.map ev = hi' at *
    split at h
    · rename_i s hx
      simp only [hx] at hb
      simp only [Option.bind_eq_some_iff, Option.map_eq_some_iff, Prod.mk.injEq] at h
      obtain ⟨l', hl', h', hh', rfl, rfl⟩ := h
      simp only [loOf_is hl', hiOf_is hh'] at hb
      simpa [and_assoc] using hb
    · cases h
  case fld off n x =>
    simp only [aPure, dPre] at h hb
    split at h
    · rename_i cs hx
      simp only [hx] at hb
      cases n <;> simp at h hb <;> exact h.1.1 hb
    · cases h
  case ldc x =>
    simp only [aPure, dPre] at h hb
    split at h
    · rename_i b i off hx
      simp only [hx] at hb
      split at h
      · rename_i sz rows hl
        simp only [hl, Bool.and_eq_true, decide_eq_true_eq] at hb
        simp only [Option.some.injEq, Prod.mk.injEq] at h
        obtain ⟨rfl, _⟩ := h
        exact hb
      · cases h
    · rename_i rows i off hx
      simp only [hx, Bool.and_eq_true, decide_eq_true_eq] at hb
      simp only [Option.some.injEq, Prod.mk.injEq] at h
      obtain ⟨rfl, _⟩ := h
      exact hb
    · cases h
  case lda n x =>
    simp only [aPure, dPre] at h hb
    split at h
    · rename_i b i off hx
      simp only [hx] at hb
      split at h
      · rename_i sz rows hl
        simp only [hl, Bool.and_eq_true, decide_eq_true_eq] at hb
        simp only [Option.some.injEq, Prod.mk.injEq] at h
        obtain ⟨rfl, _⟩ := h
        exact hb
      · cases h
    · rename_i rows i off hx
      simp only [hx, Bool.and_eq_true, decide_eq_true_eq] at hb
      simp only [Option.some.injEq, Prod.mk.injEq] at h
      obtain ⟨rfl, _⟩ := h
      exact hb
    · cases h
  case len x =>
    simp only [aPure, dPre] at h hb
    split at h
    · rename_i b n hx
      simp only [hx] at hb
      split at h
      · rename_i sz e rows hl
        simp only [hl, decide_eq_true_eq] at hb
        simp only [Option.some.injEq, Prod.mk.injEq] at h
        obtain ⟨rfl, _⟩ := h
        exact hb
      · cases h
    · split at h
      · simp only [Option.some.injEq, Prod.mk.injEq] at h
        exact h.1 ▸ trivial
      · cases h
    all_goals first | cases h; done | (simp only [Option.some.injEq, Prod.mk.injEq] at h; exact h.1 ▸ trivial)
  all_goals simp only [aPure, dPre] at h hb
  all_goals (repeat' split at h)
  all_goals first
    | (cases h; done)
    | (simp only [Option.some.injEq, Prod.mk.injEq] at h
       obtain ⟨rfl, _⟩ := h
       first
         | trivial
         | (rename_i h1 _ _ _ h2; simp only [h1, h2, Bool.and_eq_true, decide_eq_true_eq] at hb; exact hb)
         | (rename_i h1 _ _ _ _ h2; simp only [h1, h2, Bool.and_eq_true, decide_eq_true_eq] at hb; exact hb)
         | (rename_i h1; simp only [h1, Bool.and_eq_true, decide_eq_true_eq] at hb; exact hb)
         | (simp_all; done))

/-! ### Operations that make or change -/
def dEffPre (op : MOp) (s : St) : Bool :=
  let ev := fun x => (strip (s.ev x)).2
  match op with
  | .alloc z => z.all Value.oneCell'
  | .box x => (ev x).cells.all AV.one
  | .st n a v =>
    match ev a with
    | .op b i off => match s.look b with
      | some (.mem _ rows) => (ev v).cells.all AV.one && (ev v).cells.length == n && decide (i < rows.length) && decide (off + n ≤ (rows.getD i []).length)
      | _ => false
    | _ => false
  | .bslice _ _ _ z _ => z.all Value.oneCell'
  | .gsl _ _ _ z _ => z.all Value.oneCell'
  | .msl _ bytes z l c =>
    match ev l, ev c with
    | .c (.sc (.int _ n)), .c (.sc (.int _ m)) => decide (n = m) && decide (0 ≤ n) && decide (n * bytes ≤ 140737488355328) && decide (n ≤ 9223372036854775807) && z.all Value.oneCell'
    | _, _ => false
  | .app sz bytes e x y =>
    match rowsOf s.look (ev y) with
    | none => false
    | some new =>
      match ev x with
      | .c (.sc (.slice none 0 0)) => rowB sz new && decide (new.length * bytes ≤ 140737488355328) && decide (new.length ≤ 9223372036854775807)
      | .gs b n => match s.look b with
        | some (.grow sz' e' rows) => sz' == sz && e' == e && n == rows.length && rowB sz new && decide ((n + new.length) * bytes ≤ 140737488355328) && decide (n + new.length ≤ 9223372036854775807)
        | _ => false
      | _ => false
  | _ => false
theorem dEffPre_is {op : MOp} {s s' : St} {p : Prop} {av : AV} (h : aEff op s = some (p, s', av)) (hb : dEffPre op s = true) : p := by
  cases op <;> simp only [aEff, reduceCtorEq] at h
  case alloc z =>
    simp only [Option.some.injEq, Prod.mk.injEq] at h
    obtain ⟨rfl, _⟩ := h
    exact hb
  case box x =>
    simp only [Option.some.injEq, Prod.mk.injEq] at h
    obtain ⟨rfl, _⟩ := h
    exact hb
  case gsl n sz e z ps =>
    simp only [Option.bind_eq_some_iff, Option.map_eq_some_iff, Prod.mk.injEq] at h
    obtain ⟨_, _, _, _, rfl, _⟩ := h
    exact hb
  case bslice o n sz z ps =>
    simp only [Option.bind_eq_some_iff] at h
    obtain ⟨cs, _, h⟩ := h
    split at h
    · simp only [Option.some.injEq, Prod.mk.injEq] at h
      obtain ⟨rfl, _⟩ := h
      exact hb
    · simp only [Option.map_eq_some_iff, Prod.mk.injEq] at h
      obtain ⟨_, _, rfl, _⟩ := h
      exact hb
  case st n a v =>
    simp only [dEffPre] at hb
    split at h
    · rename_i b i off hx
      simp only [hx] at hb
      split at h
      · rename_i sz rows hl
        simp only [hl] at hb
        have hb' : (strip (s.ev v)).2.cells.all AV.one = true ∧ (strip (s.ev v)).2.cells.length = n ∧ i < rows.length ∧ off + n ≤ (rows.getD i []).length := by
          simp only [Bool.and_eq_true, decide_eq_true_eq, beq_iff_eq] at hb
          exact ⟨hb.1.1.1, hb.1.1.2, hb.1.2, hb.2⟩
        split at h
        · simp only [Option.some.injEq, Prod.mk.injEq] at h
          obtain ⟨rfl, _⟩ := h
          exact hb'
        · simp only [Option.some.injEq, Prod.mk.injEq] at h
          obtain ⟨rfl, _⟩ := h
          exact hb'
      · cases h
    · cases h
  case msl sz b z l c =>
    simp only [dEffPre] at hb
    split at h
    · rename_i h1 h2
      simp only [h1, h2, Bool.and_eq_true, decide_eq_true_eq] at hb
      simp only [Option.some.injEq, Prod.mk.injEq] at h
      obtain ⟨rfl, _⟩ := h
      exact ⟨hb.1.1.1.1, hb.1.1.1.2, hb.1.1.2, hb.1.2, hb.2⟩
    · cases h
  case app sz b e x y =>
    simp only [dEffPre] at hb
    simp only [Option.bind_eq_some_iff] at h
    obtain ⟨new, hn, h⟩ := h
    simp only [hn] at hb
    split at h
    · rename_i h1
      simp only [h1, Bool.and_eq_true, decide_eq_true_eq] at hb
      simp only [Option.some.injEq, Prod.mk.injEq] at h
      obtain ⟨rfl, _⟩ := h
      exact ⟨rowB_is hb.1.1, hb.1.2, hb.2⟩
    · rename_i h1
      simp only [h1] at hb
      split at h
      · rename_i h2
        simp only [h2, Bool.and_eq_true, decide_eq_true_eq, beq_iff_eq] at hb
        split at h
        · simp only [Option.some.injEq, Prod.mk.injEq] at h
          obtain ⟨rfl, _⟩ := h
          exact ⟨hb.1.1.1.1.1, hb.1.1.1.1.2, hb.1.1.1.2, rowB_is hb.1.1.2, hb.1.2, hb.2⟩
        · simp only [Option.some.injEq, Prod.mk.injEq] at h
          obtain ⟨rfl, _⟩ := h
          exact ⟨hb.1.1.1.1.1, hb.1.1.1.1.2, hb.1.1.1.2, rowB_is hb.1.1.2, hb.1.2, hb.2⟩
      · cases h
    · cases h

def condsB (s : St) : List Opd → Bool
  | [] => true
  | x :: r => (strip (s.ev x)).1 && condsB s r
theorem condsB_is {s : St} : ∀ {l : List Opd}, condsB s l = true → condsOf s l
  | [], _ => trivial
  | x :: r, h => by
    simp only [condsB, Bool.and_eq_true] at h
    exact ⟨h.1, condsB_is h.2⟩

def dPick (s : St) (c a b : Opd) : Option AV :=
  match strip (s.ev c) with
  | (true, .c (.sc (.bool true))) => (match strip (s.ev a) with
    | (true, .c (.sc (.bool y))) => some (.c (.sc (.bool y)))
    | _ => none)
  | (true, .c (.sc (.bool false))) => (match strip (s.ev b) with
    | (true, .c (.sc (.bool z))) => some (.c (.sc (.bool z)))
    | _ => none)
  | _ => none
theorem dPick_is {s : St} {c a b : Opd} {v : AV} (h : dPick s c a b = some v) : ∃ p, aPick s c a b = some (p, v) ∧ p := by
  unfold dPick at h
  split at h
  · rename_i hc
    split at h
    · rename_i y ha
      cases h
      simp only [aPick, hc, ha]
      split <;> first
        | (rename_i e1 e2 e3; cases e1; cases e2; exact ⟨_, rfl, rfl, (fun _ => rfl), (fun h => by cases h)⟩)
        | (rename_i e1 e2 _; cases e1; cases e2; exact ⟨_, rfl, rfl, rfl, rfl⟩)
        | (rename_i e1 e2; cases e1; cases e2; exact ⟨_, rfl, rfl, rfl, rfl⟩)
        | (exfalso; simp_all; done)
    · cases h
  · rename_i hc
    split at h
    · rename_i y hb
      cases h
      simp only [aPick, hc, hb]
      split <;> first
        | (rename_i e1 e2 e3; cases e1; cases e3; exact ⟨_, rfl, rfl, (fun h => by cases h), (fun _ => rfl)⟩)
        | (rename_i e1 e2 e3; cases e1; cases e2; exact ⟨_, rfl, rfl, rfl, rfl⟩)
        | (rename_i e1 e2; cases e1; cases e2; exact ⟨_, rfl, rfl, rfl, rfl⟩)
        | (exfalso; simp_all; done)
    · cases h
  · cases h

def lookD (op : MOp) (s : St) : Option AV :=
  match op with
  | .pick c a b => dPick s c a b
  | op => if condsB s (opds op) && dPre op (fun x => (strip (s.ev x)).2) s.look then (aPure op (fun x => (strip (s.ev x)).2) s.look).map (·.2) else none
theorem lookD_is {op : MOp} {s : St} {v : AV} (h : lookD op s = some v) : ∃ p, lookOf op s = some (p, v) ∧ p := by
  have key : (if condsB s (opds op) && dPre op (fun x => (strip (s.ev x)).2) s.look then (aPure op (fun x => (strip (s.ev x)).2) s.look).map (·.2) else none) = some v → ∃ p, (aPure op (fun x => (strip (s.ev x)).2) s.look).map (fun (r : Prop × AV) => (condsOf s (opds op) ∧ r.1, r.2)) = some (p, v) ∧ p := fun h => by
    split at h
    · rename_i hb
      simp only [Bool.and_eq_true] at hb
      simp only [Option.map_eq_some_iff] at h
      obtain ⟨⟨p, v'⟩, h1, rfl⟩ := h
      exact ⟨condsOf s (opds op) ∧ p, by rw [h1]; rfl, condsB_is hb.1, dPre_is h1 hb.2⟩
    · cases h
  cases op <;> first | exact key h | exact dPick_is h

def runD (o : COp) (s : St) : Option St :=
  match gval s o.g with
  | none => none
  | some false => some (s.put o.dst (.when false (.c (.sc undef))))
  | some true =>
    if isEff o.op then
      match o.g with
      | none => if condsB s (opds o.op) && dEffPre o.op s then (aEff o.op s).map fun r => r.2.1.put o.dst r.2.2 else none
      | some _ => if stillOp o.op && condsB s (opds o.op) && dEffPre o.op s then (aEff o.op s).map fun r => s.put o.dst (.when true r.2.2) else none
    else
      match o.g with
      | none => (lookD o.op s).map fun v => s.put o.dst v
      | some _ => (lookD o.op s).map fun v => s.put o.dst (.when true v)
theorem runD_is {o : COp} {s s' : St} (h : runD o s = some s') : oneOk o s s' := by
  unfold runD at h
  split at h
  · cases h
  · rename_i hg
    cases h
    exact .inr ⟨hg, rfl⟩
  · rename_i hg
    refine .inl ?_
    simp only [runOne, hg]
    split at h
    · rename_i he
      rw [if_pos he]
      split at h
      · rename_i hn
        simp only [hn]
        split at h
        · rename_i hb
          simp only [Bool.and_eq_true] at hb
          simp only [Option.map_eq_some_iff] at h
          obtain ⟨⟨p, s1, v⟩, h1, rfl⟩ := h
          exact ⟨condsOf s (opds o.op) ∧ p, by rw [h1]; rfl, condsB_is hb.1, dEffPre_is h1 hb.2⟩
        · cases h
      · rename_i hn
        simp only [hn]
        split at h
        · rename_i hb
          simp only [Bool.and_eq_true] at hb
          simp only [Option.map_eq_some_iff] at h
          obtain ⟨⟨p, s1, v⟩, h1, rfl⟩ := h
          rw [if_pos hb.1.1]
          exact ⟨True → condsOf s (opds o.op) ∧ p, by rw [h1]; rfl, fun _ => ⟨condsB_is hb.1.2, dEffPre_is h1 hb.2⟩⟩
        · cases h
    · rename_i he
      rw [if_neg he]
      split at h
      · rename_i hn
        simp only [hn]
        simp only [Option.map_eq_some_iff] at h
        obtain ⟨v, h1, rfl⟩ := h
        obtain ⟨p, h2, hp⟩ := lookD_is h1
        exact ⟨p, by rw [h2]; rfl, hp⟩
      · rename_i hn
        simp only [hn]
        simp only [Option.map_eq_some_iff] at h
        obtain ⟨v, h1, rfl⟩ := h
        obtain ⟨p, h2, hp⟩ := lookD_is h1
        exact ⟨True → p, by rw [h2]; rfl, fun _ => hp⟩

def segD : List COp → St → Option St
  | [], s => some s
  | o :: r, s => match runD o s with
    | some s' => segD r s'
    | none => none
theorem segD_is : ∀ {l : List COp} {s s' : St} {K : St → Prop}, segD l s = some s' → K s' → aSeg l s K
  | [], s, s', K, h, hk => by cases h; exact hk
  | o :: r, s, s', K, h, hk => by
    simp only [segD] at h
    split at h
    · rename_i s1 h1
      exact ⟨s1, runD_is h1, segD_is h hk⟩
    · cases h

mutual
def undB (n : Nat) : AV → Bool
  | .gs b _ | .op b _ _ | .os b _ _ => decide (b < n)
  | .ag cs => undLB n cs
  | .tu vs => undLB n vs
  | .fn _ caps => undLB n caps
  | .when g v => !g || undB n v
  | _ => true
def undLB (n : Nat) : List AV → Bool
  | [] => true
  | a :: r => undB n a && undLB n r
end
mutual
theorem undB_is {n : Nat} : ∀ {x : AV}, undB n x = true → x.und n
  | .c _, _ => trivial
  | .z0, _ => trivial
  | .gs _ _, h => by have h2 := h; simp only [undB, decide_eq_true_eq] at h2; exact h2
  | .op _ _ _, h => by have h2 := h; simp only [undB, decide_eq_true_eq] at h2; exact h2
  | .rp _ _ _, _ => trivial
  | .os _ _ _, h => by have h2 := h; simp only [undB, decide_eq_true_eq] at h2; exact h2
  | .ag _, h => undLB_is (by simpa [undB] using h)
  | .tu _, h => undLB_is (by simpa [undB] using h)
  | .fn _ _, h => undLB_is (by simpa [undB] using h)
  | .when g v, h => fun hg => undB_is (by subst hg; simpa [undB] using h)
  | .any, _ => trivial
theorem undLB_is {n : Nat} : ∀ {xs : List AV}, undLB n xs = true → undL n xs
  | [], _ => trivial
  | x :: r, h => by
    simp only [undLB, Bool.and_eq_true] at h
    exact ⟨undB_is h.1, undLB_is h.2⟩
end
def undEB (n : Nat) : List Ent → Bool
  | [] => true
  | .grow _ _ _ :: r => undEB n r
  | .mem _ rows :: r => rows.all (undLB n) && undEB n r
theorem undEB_is {n : Nat} : ∀ {l : List Ent}, undEB n l = true → ∀ e ∈ l, Ent.und n e
  | [], _, e, he => by cases he
  | .grow _ _ _ :: r, h, e, he => by
    cases he with
    | head => trivial
    | tail _ he => exact undEB_is (l := r) h e he
  | .mem _ rows :: r, h, e, he => by
    simp only [undEB, Bool.and_eq_true, List.all_eq_true] at h
    cases he with
    | head => exact fun row hr => undLB_is (h.1 row hr)
    | tail _ he => exact undEB_is h.2 e he

/-! ### Ends -/
def resD (s : St) : List RV → Option (List AV)
  | [] => some []
  | .tmp t :: r => (resD s r).map fun x => s.t.getD t .any :: x
  | .one t :: r => if dPre (.ldc (.tmp t)) s.ev s.look then (aPure (.ldc (.tmp t)) s.ev s.look).bind fun y => (resD s r).map fun x => y.2 :: x else none
  | .many t n :: r => if dPre (.lda n (.tmp t)) s.ev s.look then (aPure (.lda n (.tmp t)) s.ev s.look).bind fun y => (resD s r).map fun x => y.2 :: x else none
theorem resD_is {s : St} : ∀ {l : List RV} {avs : List AV}, resD s l = some avs → ∃ p, aRes s l = some (p, avs) ∧ p
  | [], avs, h => by cases h; exact ⟨_, rfl, trivial⟩
  | .tmp t :: r, avs, h => by
    simp only [resD, Option.map_eq_some_iff] at h
    obtain ⟨x, h1, rfl⟩ := h
    obtain ⟨p, h2, hp⟩ := resD_is h1
    exact ⟨_, by simp only [aRes, h2]; rfl, hp⟩
  | .one t :: r, avs, h => by
    simp only [resD] at h
    split at h
    · rename_i hb
      simp only [Option.bind_eq_some_iff, Option.map_eq_some_iff] at h
      obtain ⟨⟨q, y⟩, h0, x, h1, rfl⟩ := h
      obtain ⟨p, h2, hp⟩ := resD_is h1
      exact ⟨q ∧ p, by simp only [aRes, h2, h0]; rfl, dPre_is h0 hb, hp⟩
    · cases h
  | .many t n :: r, avs, h => by
    simp only [resD] at h
    split at h
    · rename_i hb
      simp only [Option.bind_eq_some_iff, Option.map_eq_some_iff] at h
      obtain ⟨⟨q, y⟩, h0, x, h1, rfl⟩ := h
      obtain ⟨p, h2, hp⟩ := resD_is h1
      exact ⟨q ∧ p, by simp only [aRes, h2, h0]; rfl, dPre_is h0 hb, hp⟩
    · cases h

def frzD1 (s : St) : AV → Option AV
  | .c (.sl rows) => some (.c (.sl rows))
  | .c (.sc v) => (match v with
    | .slice none 0 0 => some (.c (.sl []))
    | v => some (.c (.sc v)))
  | .z0 => some (.c (.sl []))
  | .gs b n => (match s.look b with
    | some (.grow _ _ rows) => some (.c (.sl (rows.take n)))
    | _ => none)
  | .os b lo l => if s.B.length ≤ b then (match s.look b with
    | some (.mem _ rows) => (match closeRows s.look ((rows.drop lo).take l) with
      | some r => some (.c (.sl r))
      | none => some .any)
    | _ => none) else some (.os b lo l)
  | .any => some .any
  | .ag _ | .tu _ | .when _ _ => none
  | .rp rows i off => some (.rp rows i off)
  | .op b i off => if b < s.B.length then some (.op b i off) else (match s.look b with
    | some (.mem _ rows) => (closeRows s.look rows).map fun rs => .rp rs i off
    | _ => none)
  | .fn f caps => if undLB s.B.length caps then some (.fn f caps) else none
theorem frzD1_is {s : St} {x y : AV} (h : frzD1 s x = some y) : Fz1 s.look s.B.length x y ∨ FzP s.look s.B.length x y := by
  unfold frzD1 at h
  split at h
  · cases h; exact .inl (.inr (.inl ⟨rfl, trivial⟩))
  · split at h
    · cases h; exact .inl (.inr (.inr ⟨[], rfl, rfl, fun _ _ _ h => by cases h⟩))
    · cases h; exact .inl (.inr (.inl ⟨rfl, trivial⟩))
  · cases h; exact .inl (.inr (.inr ⟨[], rfl, rfl, fun _ _ _ h => by cases h⟩))
  · split at h
    · rename_i hb; cases h; exact .inl (.inr (.inr ⟨_, by simp only [rowsOf, hb], rfl, fun _ _ _ h => by cases h⟩))
    · cases h
  · split at h
    · rename_i hle
      split at h
      · rename_i hb
        split at h
        · rename_i r h1
          cases h
          exact .inl (.inr (.inr ⟨r, by simp only [rowsOf, hb]; exact h1, rfl, fun _ _ _ h => by cases h; exact hle⟩))
        · cases h; exact .inl (.inl rfl)
      · cases h
    · rename_i hle
      cases h
      exact .inl (.inr (.inl ⟨rfl, Nat.lt_of_not_le hle⟩))
  · cases h; exact .inl (.inl rfl)
  · cases h
  · cases h
  · cases h
  · cases h; exact .inl (.inr (.inl ⟨rfl, trivial⟩))
  · split at h
    · rename_i hlt; cases h; exact .inl (.inr (.inl ⟨rfl, hlt⟩))
    · rename_i hnl
      split at h
      · rename_i sz rows hl
        simp only [Option.map_eq_some_iff] at h
        obtain ⟨rs, h1, rfl⟩ := h
        exact .inr ⟨_, _, _, sz, rows, rs, rfl, Nat.le_of_not_lt hnl, hl, h1, rfl⟩
      · cases h
  · split at h
    · rename_i hu; cases h; exact .inl (.inr (.inl ⟨rfl, undLB_is hu⟩))
    · cases h
def frzDL (s : St) : List AV → Option (List AV)
  | [] => some []
  | x :: r => (frzD1 s x).bind fun y => (frzDL s r).map fun z => y :: z
theorem frzDL_is {s : St} : ∀ {xs ys : List AV}, frzDL s xs = some ys → FzL s.look s.B.length xs ys
  | [], ys, h => by cases h; trivial
  | x :: r, ys, h => by
    simp only [frzDL, Option.bind_eq_some_iff, Option.map_eq_some_iff] at h
    obtain ⟨y, h1, z, h2, rfl⟩ := h
    exact ⟨frzD1_is h1, frzDL_is h2⟩
def frzDA (s : St) : AV → Option AV
  | .ag xs => (frzDL s xs).map .ag
  | .fn f xs => (frzDL s xs).map (.fn f)
  | x => frzD1 s x
theorem frzDA_is {s : St} {x y : AV} (h : frzDA s x = some y) : Fz s.look s.B.length x y := by
  unfold frzDA at h
  split at h
  · simp only [Option.map_eq_some_iff] at h
    obtain ⟨ys, h1, rfl⟩ := h
    exact .inr (.inl ⟨_, _, rfl, rfl, frzDL_is h1⟩)
  · simp only [Option.map_eq_some_iff] at h
    obtain ⟨ys, h1, rfl⟩ := h
    exact .inr (.inr ⟨_, _, _, rfl, rfl, frzDL_is h1⟩)
  · exact .inl (frzD1_is h)
def frzDR (s : St) : List AV → Option (List AV)
  | [] => some []
  | x :: r => (frzDA s x).bind fun y => (frzDR s r).map fun z => y :: z
theorem frzDR_is {s : St} : ∀ {xs ys : List AV}, frzDR s xs = some ys → FzR s.look s.B.length xs ys
  | [], ys, h => by cases h; trivial
  | x :: r, ys, h => by
    simp only [frzDR, Option.bind_eq_some_iff, Option.map_eq_some_iff] at h
    obtain ⟨y, h1, z, h2, rfl⟩ := h
    exact ⟨frzDA_is h1, frzDR_is h2⟩

def isGs : AV → Bool
  | .gs _ _ => true
  | .op _ _ _ => true
  | _ => false
/-- What a call hands back: as it is, where a slice that may go on growing is handed back (unless fz), else what nobody stores into any more is told by its contents. -/
def finD (fz : Bool) (rvs : List RV) (s : St) : Option (AV × List Ent) :=
  match resD s rvs with
  | none => none
  | some avs =>
    if !fz && avs.any isGs then some (resOf avs, s.B ++ s.L) else
    match frzDR s avs with
    | some ys => if undEB s.B.length s.B then some (resOf ys, s.B) else some (resOf avs, s.B ++ s.L)
    | none => some (resOf avs, s.B ++ s.L)
theorem finD_is {fz : Bool} {rvs : List RV} {s : St} {r : AV} {H : List Ent} {e : AX} (h : finD fz rvs s = some (r, H)) (hne : match e with | .exit _ => False | _ => True) : EndsR rvs (fun r' H' => r' = r ∧ H' = H) e s := by
  unfold finD at h
  split at h
  · cases h
  · rename_i avs ha
    obtain ⟨p, h1, hp⟩ := resD_is ha
    split at h
    · cases h
      exact ⟨hne, p, avs, h1, hp, .inl ⟨rfl, rfl⟩⟩
    · split at h
      · rename_i ys hf
        split at h
        · rename_i hu
          cases h
          exact ⟨hne, p, avs, h1, hp, .inr ⟨ys, frzDR_is hf, undEB_is hu, rfl, rfl⟩⟩
        · cases h
          exact ⟨hne, p, avs, h1, hp, .inl ⟨rfl, rfl⟩⟩
      · cases h
        exact ⟨hne, p, avs, h1, hp, .inl ⟨rfl, rfl⟩⟩

/-! ### Is memory as it was? -/
def valEq : Value → Value → Bool
  | .int k a, .int k' b => decide (k = k') && decide (a = b)
  | .bool a, .bool b => a == b
  | .string a, .string b => decide (a = b)
  | .slice none 0 0, .slice none 0 0 => true
  | .nilFunc, .nilFunc => true
  | .func (.func f) ⟨[]⟩ ⟨[]⟩, .func (.func g) ⟨[]⟩ ⟨[]⟩ => decide (f = g)
  | _, _ => false
theorem valEq_is {x y : Value} (h : valEq x y = true) : x = y := by
  unfold valEq at h
  split at h <;> simp_all
mutual
def cvEq : CV → CV → Bool
  | .sc a, .sc b => valEq a b
  | .sl r, .sl r' => cvEqLL r r'
  | _, _ => false
def cvEqL : List CV → List CV → Bool
  | [], [] => true
  | a :: r, b :: r' => cvEq a b && cvEqL r r'
  | _, _ => false
def cvEqLL : List (List CV) → List (List CV) → Bool
  | [], [] => true
  | a :: r, b :: r' => cvEqL a b && cvEqLL r r'
  | _, _ => false
end
mutual
theorem cvEq_is : ∀ {x y : CV}, cvEq x y = true → x = y
  | .sc a, .sc b, h => by simp only [cvEq] at h; rw [valEq_is h]
  | .sl r, .sl r', h => by simp only [cvEq] at h; rw [cvEqLL_is h]
  | .sc _, .sl _, h => by simp [cvEq] at h
  | .sl _, .sc _, h => by simp [cvEq] at h
theorem cvEqL_is : ∀ {x y : List CV}, cvEqL x y = true → x = y
  | [], [], _ => rfl
  | a :: r, b :: r', h => by simp only [cvEqL, Bool.and_eq_true] at h; rw [cvEq_is h.1, cvEqL_is h.2]
  | [], _ :: _, h => by simp [cvEqL] at h
  | _ :: _, [], h => by simp [cvEqL] at h
theorem cvEqLL_is : ∀ {x y : List (List CV)}, cvEqLL x y = true → x = y
  | [], [], _ => rfl
  | a :: r, b :: r', h => by simp only [cvEqLL, Bool.and_eq_true] at h; rw [cvEqL_is h.1, cvEqLL_is h.2]
  | [], _ :: _, h => by simp [cvEqLL] at h
  | _ :: _, [], h => by simp [cvEqLL] at h
end
mutual
def avEq : AV → AV → Bool
  | .c a, .c b => cvEq a b
  | .z0, .z0 => true
  | .gs a b, .gs c d => decide (a = c) && decide (b = d)
  | .op a b c, .op d e f => decide (a = d) && decide (b = e) && decide (c = f)
  | .rp r i o, .rp r' i' o' => cvEqLL r r' && decide (i = i') && decide (o = o')
  | .os a b c, .os d e f => decide (a = d) && decide (b = e) && decide (c = f)
  | .fn f l, .fn g l' => decide (f = g) && avEqL l l'
  | .any, .any => true
  | _, _ => false
def avEqL : List AV → List AV → Bool
  | [], [] => true
  | a :: r, b :: r' => avEq a b && avEqL r r'
  | _, _ => false
end
mutual
theorem avEq_is : ∀ {x y : AV}, avEq x y = true → x = y
  | .c a, .c b, h => by simp only [avEq] at h; rw [cvEq_is h]
  | .z0, .z0, _ => rfl
  | .gs a b, .gs c d, h => by simp [avEq] at h; simp [h]
  | .op a b c, .op d e f, h => by simp [avEq] at h; simp [h]
  | .rp r i o, .rp r' i' o', h => by simp [avEq] at h; simp [h, cvEqLL_is h.1.1]
  | .os a b c, .os d e f, h => by simp [avEq] at h; simp [h]
  | .fn f l, .fn g l', h => by simp [avEq] at h; simp [h.1, avEqL_is h.2]
  | .any, .any, _ => rfl
  | .ag _, y, h => by cases y <;> simp [avEq] at h
  | .tu _, y, h => by cases y <;> simp [avEq] at h
  | .when _ _, y, h => by cases y <;> simp [avEq] at h
  | .c _, .z0, h | .c _, .gs _ _, h | .c _, .op _ _ _, h | .c _, .rp _ _ _, h | .c _, .os _ _ _, h | .c _, .ag _, h | .c _, .tu _, h | .c _, .fn _ _, h | .c _, .when _ _, h | .c _, .any, h => by simp [avEq] at h
  | .z0, .c _, h | .z0, .gs _ _, h | .z0, .op _ _ _, h | .z0, .rp _ _ _, h | .z0, .os _ _ _, h | .z0, .ag _, h | .z0, .tu _, h | .z0, .fn _ _, h | .z0, .when _ _, h | .z0, .any, h => by simp [avEq] at h
  | .gs _ _, .c _, h | .gs _ _, .z0, h | .gs _ _, .op _ _ _, h | .gs _ _, .rp _ _ _, h | .gs _ _, .os _ _ _, h | .gs _ _, .ag _, h | .gs _ _, .tu _, h | .gs _ _, .fn _ _, h | .gs _ _, .when _ _, h | .gs _ _, .any, h => by simp [avEq] at h
  | .op _ _ _, .c _, h | .op _ _ _, .z0, h | .op _ _ _, .gs _ _, h | .op _ _ _, .rp _ _ _, h | .op _ _ _, .os _ _ _, h | .op _ _ _, .ag _, h | .op _ _ _, .tu _, h | .op _ _ _, .fn _ _, h | .op _ _ _, .when _ _, h | .op _ _ _, .any, h => by simp [avEq] at h
  | .rp _ _ _, .c _, h | .rp _ _ _, .z0, h | .rp _ _ _, .gs _ _, h | .rp _ _ _, .op _ _ _, h | .rp _ _ _, .os _ _ _, h | .rp _ _ _, .ag _, h | .rp _ _ _, .tu _, h | .rp _ _ _, .fn _ _, h | .rp _ _ _, .when _ _, h | .rp _ _ _, .any, h => by simp [avEq] at h
  | .os _ _ _, .c _, h | .os _ _ _, .z0, h | .os _ _ _, .gs _ _, h | .os _ _ _, .op _ _ _, h | .os _ _ _, .rp _ _ _, h | .os _ _ _, .ag _, h | .os _ _ _, .tu _, h | .os _ _ _, .fn _ _, h | .os _ _ _, .when _ _, h | .os _ _ _, .any, h => by simp [avEq] at h
  | .fn _ _, .c _, h | .fn _ _, .z0, h | .fn _ _, .gs _ _, h | .fn _ _, .op _ _ _, h | .fn _ _, .rp _ _ _, h | .fn _ _, .os _ _ _, h | .fn _ _, .ag _, h | .fn _ _, .tu _, h | .fn _ _, .when _ _, h | .fn _ _, .any, h => by simp [avEq] at h
  | .any, .c _, h | .any, .z0, h | .any, .gs _ _, h | .any, .op _ _ _, h | .any, .rp _ _ _, h | .any, .os _ _ _, h | .any, .ag _, h | .any, .tu _, h | .any, .fn _ _, h | .any, .when _ _, h => by simp [avEq] at h
theorem avEqL_is : ∀ {x y : List AV}, avEqL x y = true → x = y
  | [], [], _ => rfl
  | a :: r, b :: r', h => by simp only [avEqL, Bool.and_eq_true] at h; rw [avEq_is h.1, avEqL_is h.2]
  | [], _ :: _, h => by simp [avEqL] at h
  | _ :: _, [], h => by simp [avEqL] at h
end
def avEqLL : List (List AV) → List (List AV) → Bool
  | [], [] => true
  | a :: r, b :: r' => avEqL a b && avEqLL r r'
  | _, _ => false
theorem avEqLL_is : ∀ {x y : List (List AV)}, avEqLL x y = true → x = y
  | [], [], _ => rfl
  | a :: r, b :: r', h => by simp only [avEqLL, Bool.and_eq_true] at h; rw [avEqL_is h.1, avEqLL_is h.2]
  | [], _ :: _, h => by simp [avEqLL] at h
  | _ :: _, [], h => by simp [avEqLL] at h
def entsEq : List Ent → List Ent → Bool
  | [], [] => true
  | .grow sz e rows :: r, .grow sz' e' rows' :: r' => decide (sz = sz') && decide (e = e') && cvEqLL rows rows' && entsEq r r'
  | .mem sz rows :: r, .mem sz' rows' :: r' => decide (sz = sz') && avEqLL rows rows' && entsEq r r'
  | _, _ => false
theorem entsEq_is : ∀ {x y : List Ent}, entsEq x y = true → x = y
  | [], [], _ => rfl
  | .grow sz e rows :: r, .grow sz' e' rows' :: r', h => by
    simp only [entsEq, Bool.and_eq_true, decide_eq_true_eq] at h
    rw [h.1.1.1, h.1.1.2, cvEqLL_is h.1.2, entsEq_is h.2]
  | .mem sz rows :: r, .mem sz' rows' :: r', h => by
    simp only [entsEq, Bool.and_eq_true, decide_eq_true_eq] at h
    rw [h.1.1, avEqLL_is h.1.2, entsEq_is h.2]
  | [], _ :: _, h => by simp [entsEq] at h
  | _ :: _, [], h => by simp [entsEq] at h
  | .grow _ _ _ :: _, .mem _ _ :: _, h => by simp [entsEq] at h
  | .mem _ _ :: _, .grow _ _ _ :: _, h => by simp [entsEq] at h

/-! ### The run -/
abbrev Tbl := FuncId → Option (ACode × Nat × List RV)
mutual
def arun (T : Tbl) : Nat → ACode → St → Option (AX × St)
  | 0, _, _ => none
  | n + 1, c, s =>
    match c with
    | .skip => some (.nrm, s)
    | .reg draw items => (match aits T n draw items s with
      | some s' => some (.nrm, s')
      | none => none)
    | .seq x y => (match arun T n x s with
      | some (.nrm, s') => arun T n y s'
      | r => r)
    | .cond c x y => (match s.ev c with
      | .c (.sc (.bool true)) => arun T n x s
      | .c (.sc (.bool false)) => arun T n y s
      | _ => none)
    | .block id x => (match arun T n x s with
      | some (.exit i, s') => if i = id then some (.nrm, s') else some (.exit i, s')
      | r => r)
    | .loop x => (match arun T n x s with
      | some (.nrm, s') => arun T n (.loop x) s'
      | r => r)
    | .exit id => some (.exit id, s)
    | .ret => some (.ret, s)
def aits (T : Tbl) : Nat → Bool → List Item → St → Option St
  | 0, _, _, _ => none
  | n + 1, draw, items, s =>
    match items with
    | [] => some s
    | .chk ps :: r => if !draw || chkB s ps then aits T n draw r s else none
    | .seg ops :: r => if draw && !(ops.all xOp) then none else (match segD ops s with
      | some s' => aits T n draw r s'
      | none => none)
    | .call d g f args :: rest =>
      match g with
      | none => (match callee s f args with
        | none => none
        | some (F, as) => if condsB s (f :: args) then
            (if draw then
              (if undLB 0 as then (match acall T n true F as [] with
                | some (r, []) => if undB 0 r then aits T n true rest (s.put d r) else none
                | _ => none) else (match acall T n true F as (s.B ++ s.L) with
                | some (r, H') => if entsEq H' (s.B ++ s.L) then aits T n true rest (s.put d r) else none
                | _ => none))
            else (match acall T n false F as (s.B ++ s.L) with
              | some (r, H') => if s.B.length ≤ H'.length then aits T n false rest (St.put { s with B := H'.take s.B.length, L := H'.drop s.B.length } d r) else none
              | none => none))
          else none)
      | some g => (match gval s (some g) with
        | none => none
        | some false => aits T n draw rest (s.put d (.when false (.c (.sc undef))))
        | some true => (match callee s f args with
          | none => none
          | some (F, as) => if condsB s (f :: args) then
              (if undLB 0 as then (match acall T n true F as [] with
                | some (r, []) => if undB 0 r then aits T n draw rest (s.put d (.when true r)) else none
                | _ => none) else (match acall T n true F as (s.B ++ s.L) with
                | some (r, H') => if entsEq H' (s.B ++ s.L) then aits T n draw rest (s.put d (.when true r)) else none
                | _ => none))
            else none))
def acall (T : Tbl) : Nat → Bool → FuncId → List AV → List Ent → Option (AV × List Ent)
  | 0, _, _, _, _ => none
  | n + 1, fz, F, as, H =>
    match T F with
    | none => none
    | some (ac, k, rvs) => (match arun T n ac (start k as H) with
      | some (.exit _, _) => none
      | some (_, s) => finD fz rvs s
      | none => none)
end

theorem awp_loop1 {P : Program} {x : ACode} {Q : AX → St → Prop} {s s' : St} (h1 : awp P x (fun e t => e = .nrm ∧ t = s') s) (h2 : awp P (.loop x) Q s') : awp P (.loop x) Q s := by
  obtain ⟨I, ⟨n0, s0, hw, h0⟩, hI⟩ := h2
  refine ⟨fun n t => (n ≤ n0 ∧ I n t) ∨ (n = n0 + 1 ∧ t = s), ⟨n0 + 1, s, .inl rfl, .inr ⟨rfl, rfl⟩⟩, ?_⟩
  rintro n t (⟨hn, ht⟩ | ⟨rfl, rfl⟩)
  · refine awp_mono x (fun e t' hq => ?_) _ (hI n t ht)
    cases e with
    | nrm =>
      obtain ⟨m, s'', hm, hw', hI'⟩ := hq
      exact ⟨m, s'', hm, hw', .inl ⟨by omega, hI'⟩⟩
    | exit i => exact hq
    | ret => exact hq
  · refine awp_mono x (fun e t' hq => ?_) _ h1
    obtain ⟨rfl, rfl⟩ := hq
    exact ⟨n0, s0, by omega, hw, .inl ⟨Nat.le_refl _, h0⟩⟩
theorem awp_loop0 {P : Program} {x : ACode} {Q : AX → St → Prop} {s : St} (h1 : awp P x (fun e t => e ≠ .nrm ∧ Q e t) s) : awp P (.loop x) Q s := by
  refine ⟨fun n t => t = s, ⟨0, s, .inl rfl, rfl⟩, ?_⟩
  rintro n t rfl
  refine awp_mono x (fun e t' hq => ?_) _ h1
  cases e with
  | nrm => exact absurd rfl hq.1
  | exit i => exact hq.2
  | ret => exact hq.2

structure TblOk (P : Program) (T : Tbl) : Prop where
  is : ∀ f ac k rvs, T f = some (ac, k, rvs) → FnIs P f ac k rvs
theorem ACalls.of_end {P : Program} (hm : P.follows .mixedOrders = true) {f : FuncId} {ac : ACode} {k : Nat} {rvs : List RV} (hf : FnIs P f ac k rvs) {args : List AV} {H : List Ent} {R : AV → List Ent → Prop}
    (h : awp P ac (EndsR rvs R) (start k args H)) : ACalls P f args H R := by
  obtain ⟨own, late, fn, c, h1, h2, h3, h4, h5, h6⟩ := hf.is
  exact ACalls.of_awp hm h1 h2 h3 h4 h5 h6 fun hu hua => h

theorem run_sound {P : Program} (hm : P.follows .mixedOrders = true) {T : Tbl} (hT : TblOk P T) : ∀ n : Nat,
    (∀ c s e s', arun T n c s = some (e, s') → awp P c (fun e' t => e' = e ∧ t = s') s) ∧
    (∀ items s s', aits T n false items s = some s' → aItems P items s (fun t => t = s')) ∧
    (∀ items s s', aits T n true items s = some s' → aItemsQ P items s (fun t => t = s')) ∧
    (∀ fz F as H r H', acall T n fz F as H = some (r, H') → ACalls P F as H (fun r' H'' => r' = r ∧ H'' = H'))
  | 0 => ⟨fun _ _ _ _ h => by simp [arun] at h, fun _ _ _ h => by simp [aits] at h, fun _ _ _ h => by simp [aits] at h, fun _ _ _ _ _ _ h => by simp [acall] at h⟩
  | n + 1 => by
    obtain ⟨ih1, ih2, ih3, ih4⟩ := run_sound hm hT n
    refine ⟨fun c s e s' h => ?_, fun items s s' h => ?_, fun items s s' h => ?_, fun fz F as H r H' h => ?_⟩
    · cases c with
      | skip =>
        simp only [arun, Option.some.injEq, Prod.mk.injEq] at h
        obtain ⟨rfl, rfl⟩ := h
        exact ⟨rfl, rfl⟩
      | reg draw items =>
        simp only [arun] at h
        split at h
        · rename_i s1 h1
          simp only [Option.some.injEq, Prod.mk.injEq] at h
          obtain ⟨rfl, rfl⟩ := h
          unfold awp
          cases draw
          · exact aItems_mono items s _ _ (fun t ht => ⟨rfl, ht⟩) (ih2 items s s1 h1)
          · exact aItemsQ_mono items s _ _ (fun t ht => ⟨rfl, ht⟩) (ih3 items s s1 h1)
        · cases h
      | seq x y =>
        simp only [arun] at h
        unfold awp
        split at h
        · rename_i s1 h1
          refine awp_mono x (fun e t ht => ?_) s (ih1 x s .nrm s1 h1)
          obtain ⟨rfl, rfl⟩ := ht
          exact ih1 y _ _ _ h
        · rename_i hne
          refine awp_mono x (fun e' t ht => ?_) s (ih1 x s e s' h)
          obtain ⟨rfl, rfl⟩ := ht
          cases e' with
          | nrm => exact absurd h (hne _)
          | exit i => exact ⟨rfl, rfl⟩
          | ret => exact ⟨rfl, rfl⟩
      | cond c x y =>
        simp only [arun] at h
        split at h
        · rename_i hc
          exact ⟨true, hc, fun _ => ih1 x s e s' h, fun h => by cases h⟩
        · rename_i hc
          exact ⟨false, hc, (fun h => by cases h), fun _ => ih1 y s e s' h⟩
        · cases h
      | block id x =>
        simp only [arun] at h
        unfold awp
        split at h
        · rename_i i s1 h1
          refine awp_mono x (fun e' t ht => ?_) s (ih1 x s _ s1 h1)
          obtain ⟨rfl, rfl⟩ := ht
          show if i = id then _ else _
          split at h
          · rename_i hi
            rw [if_pos hi]
            simp only [Option.some.injEq, Prod.mk.injEq] at h
            obtain ⟨rfl, rfl⟩ := h
            exact ⟨rfl, rfl⟩
          · rename_i hi
            rw [if_neg hi]
            simp only [Option.some.injEq, Prod.mk.injEq] at h
            obtain ⟨rfl, rfl⟩ := h
            exact ⟨rfl, rfl⟩
        · rename_i hne
          refine awp_mono x (fun e' t ht => ?_) s (ih1 x s e s' h)
          obtain ⟨rfl, rfl⟩ := ht
          cases e' with
          | nrm => exact ⟨rfl, rfl⟩
          | exit i => exact absurd h (hne _ _)
          | ret => exact ⟨rfl, rfl⟩
      | loop x =>
        simp only [arun] at h
        split at h
        · rename_i s1 h1
          exact awp_loop1 (ih1 x s .nrm s1 h1) (ih1 (.loop x) s1 e s' h)
        · rename_i hne
          refine awp_loop0 (awp_mono x (fun e' t ht => ?_) s (ih1 x s e s' h))
          obtain ⟨rfl, rfl⟩ := ht
          exact ⟨fun he => by subst he; exact absurd h (hne _), rfl, rfl⟩
      | exit id =>
        simp only [arun, Option.some.injEq, Prod.mk.injEq] at h
        obtain ⟨rfl, rfl⟩ := h
        exact ⟨rfl, rfl⟩
      | ret =>
        simp only [arun, Option.some.injEq, Prod.mk.injEq] at h
        obtain ⟨rfl, rfl⟩ := h
        exact ⟨rfl, rfl⟩
    · cases items with
      | nil =>
        simp only [aits, Option.some.injEq] at h
        exact h
      | cons it r =>
        cases it with
        | chk ps =>
          simp only [aits, Bool.not_false, Bool.true_or, if_true] at h
          exact ih2 r s s' h
        | seg ops =>
          simp only [aits, Bool.false_and, Bool.false_eq_true, if_false] at h
          split at h
          · rename_i s1 h1
            exact segD_is h1 (ih2 r s1 s' h)
          · cases h
        | call d g f args =>
          simp only [aits, Bool.false_eq_true, if_false] at h
          unfold aItems aCallI
          cases g with
          | none =>
            simp only at h ⊢
            split at h
            · cases h
            · rename_i F as hc
              split at h
              · rename_i hb
                split at h
                · rename_i rr H' hcall
                  split at h
                  · rename_i hl
                    refine ⟨F, as, hc, condsB_is hb, (ih4 _ F as _ rr H' hcall).mono fun r' H'' ⟨e1, e2⟩ => ?_⟩
                    subst e1; subst e2
                    exact ⟨_, _, (List.take_append_drop _ _).symm, by simp; omega, ih2 r _ s' h⟩
                  · cases h
                · cases h
              · cases h
          | some g =>
            simp only at h ⊢
            split at h
            · cases h
            · rename_i hg
              exact ⟨false, hg, .c (.sc undef), (fun h => by cases h), ih2 r _ s' h⟩
            · rename_i hg
              split at h
              · cases h
              · rename_i F as hc
                split at h
                · rename_i hb
                  split at h
                  · rename_i hua
                    split at h
                    · rename_i rr hcall
                      split at h
                      · rename_i hu
                        have hp : PCalls P F as [] rr := ih4 _ F as [] rr [] hcall
                        exact ⟨true, hg, rr, fun _ => ⟨F, as, hc, condsB_is hb, hp.any (undLB_is hua) (undB_is hu) _⟩, ih2 r _ s' h⟩
                      · cases h
                    · cases h
                  · split at h
                    · rename_i rr H' hcall
                      split at h
                      · rename_i he
                        have := entsEq_is he
                        subst this
                        exact ⟨true, hg, rr, fun _ => ⟨F, as, hc, condsB_is hb, ih4 _ F as _ rr _ hcall⟩, ih2 r _ s' h⟩
                      · cases h
                    · cases h
                · cases h
    · cases items with
      | nil =>
        simp only [aits, Option.some.injEq] at h
        exact h
      | cons it r =>
        cases it with
        | chk ps =>
          simp only [aits, Bool.not_true, Bool.false_or] at h
          split at h
          · rename_i hc
            exact ⟨hc, ih3 r s s' h⟩
          · cases h
        | seg ops =>
          simp only [aits, Bool.true_and] at h
          split at h
          · cases h
          · rename_i hne
            split at h
            · rename_i s1 h1
              exact ⟨by simpa using hne, segD_is h1 (ih3 r s1 s' h)⟩
            · cases h
        | call d g f args =>
          simp only [aits, if_true] at h
          unfold aItemsQ
          cases g with
          | none =>
            simp only at h ⊢
            split at h
            · cases h
            · rename_i F as hc
              split at h
              · rename_i hb
                split at h
                · rename_i hu
                  split at h
                  · rename_i rr hcall
                    split at h
                    · rename_i hr
                      have hp : PCalls P F as [] rr := ih4 _ F as [] rr [] hcall
                      refine ⟨true, rfl, rr, fun _ => ⟨F, as, hc, condsB_is hb, hp.any (undLB_is hu) (undB_is hr) _⟩, ih3 r _ s' ?_⟩
                      simpa using h
                    · cases h
                  · cases h
                · split at h
                  · rename_i rr H' hcall
                    split at h
                    · rename_i he
                      have := entsEq_is he
                      subst this
                      refine ⟨true, rfl, rr, fun _ => ⟨F, as, hc, condsB_is hb, ih4 _ F as _ rr _ hcall⟩, ih3 r _ s' ?_⟩
                      simpa using h
                    · cases h
                  · cases h
              · cases h
          | some g =>
            simp only at h ⊢
            split at h
            · cases h
            · rename_i hg
              exact ⟨false, hg, .c (.sc undef), (fun h => by cases h), ih3 r _ s' h⟩
            · rename_i hg
              split at h
              · cases h
              · rename_i F as hc
                split at h
                · rename_i hb
                  split at h
                  · rename_i hua
                    split at h
                    · rename_i rr hcall
                      split at h
                      · rename_i hu
                        have hp : PCalls P F as [] rr := ih4 _ F as [] rr [] hcall
                        exact ⟨true, hg, rr, fun _ => ⟨F, as, hc, condsB_is hb, hp.any (undLB_is hua) (undB_is hu) _⟩, ih3 r _ s' h⟩
                      · cases h
                    · cases h
                  · split at h
                    · rename_i rr H' hcall
                      split at h
                      · rename_i he
                        have := entsEq_is he
                        subst this
                        exact ⟨true, hg, rr, fun _ => ⟨F, as, hc, condsB_is hb, ih4 _ F as _ rr _ hcall⟩, ih3 r _ s' h⟩
                      · cases h
                    · cases h
                · cases h
    · simp only [acall] at h
      split at h
      · cases h
      · rename_i ac k rvs ht
        refine ACalls.of_end hm (hT.is F ac k rvs ht) ?_
        split at h
        · cases h
        · rename_i e s1 hne hr
          refine awp_mono ac (fun e' t he => ?_) _ (ih1 ac _ e s1 hr)
          obtain ⟨rfl, rfl⟩ := he
          exact finD_is h (by cases e' <;> first | trivial | exact hne _ rfl)
        · cases h

/-- A closed call, by computation. -/
theorem acall_pure {P : Program} (hm : P.follows .mixedOrders = true) {T : Tbl} (hT : TblOk P T) {n : Nat} {F : FuncId} {as : List AV} {r : AV} {fz : Bool} (h : acall T n fz F as [] = some (r, [])) : PCalls P F as [] r := (run_sound hm hT n).2.2.2 fz F as [] r [] h
end Go.Den
namespace Go.Den
noncomputable section
/-- A round goes on with another state, nearer to the end, or the answer is found. -/
def RoundFG {σ α : Type} (F : α → Prop) (Inv : σ → Prop) (μ : σ → Nat) (x : σ) : σ ⊕ α → Prop
  | .inl y => Inv y ∧ μ y < μ x
  | .inr v => F v
def RoundQG {σ α : Type} (P : Program) (Q : α → AX → St → Prop) (k : KK) (keep : List Nat) (nL : Nat) (hd : σ → St) : σ ⊕ α → AX → St → Prop
  | .inl y, e, s => e = .nrm ∧ (∀ e ∈ s.B, Ent.und s.B.length e) ∧ ∃ wk, FgtOk keep nL (blank wk s) ∧ fgt keep nL (blank wk s) = hd y
  | .inr v, e, s => e ≠ .nrm ∧ res P k (Q v) e s
theorem roundG_next {P : Program} {σ α : Type} {F : α → Prop} {Q : α → AX → St → Prop} {k : KK} {keep : List Nat} {nL : Nat} {hd : σ → St} {Inv : σ → Prop} {μ : σ → Nat} {x : σ} {p : Prop} {s : St} (y : σ)
    (hf : fgt keep nL s = hd y) (hi : Inv y) (hm : μ y < μ x) (hB : ∀ e ∈ s.B, Ent.und s.B.length e) (hw : FgtOk keep nL s) (hp : p) : MeanE P (RoundFG F Inv μ x) (RoundQG P Q k keep nL hd) (p, .fin .nrm s) :=
  ⟨.inl y, ⟨hi, hm⟩, hp, rfl, hB, [], hw, hf⟩
theorem roundG_nextW {P : Program} {σ α : Type} {F : α → Prop} {Q : α → AX → St → Prop} {k : KK} {keep : List Nat} {nL : Nat} {hd : σ → St} {Inv : σ → Prop} {μ : σ → Nat} {x : σ} {p : Prop} {s : St} (wk : List (Nat × Nat)) (y : σ)
    (hf : fgt keep nL (blank wk s) = hd y) (hi : Inv y) (hm : μ y < μ x) (hB : ∀ e ∈ s.B, Ent.und s.B.length e) (hw : FgtOk keep nL (blank wk s)) (hp : p) : MeanE P (RoundFG F Inv μ x) (RoundQG P Q k keep nL hd) (p, .fin .nrm s) :=
  ⟨.inl y, ⟨hi, hm⟩, hp, rfl, hB, wk, hw, hf⟩
theorem roundG_out {P : Program} {ω : Om} (hω : ω.Real) {σ α : Type} {F : α → Prop} {Q : α → AX → St → Prop} {k : KK} {keep : List Nat} {nL : Nat} {hd : σ → St} {Inv : σ → Prop} {μ : σ → Nat} {x : σ} {p : Prop} {e : AX} {s : St}
    (h : MeanE P F Q (runc ω 100000 (.exit e) k s True)) (he : e ≠ .nrm) (hp : p) : MeanE P (RoundFG F Inv μ x) (RoundQG P Q k keep nL hd) (p, .fin e s) := by
  obtain ⟨v, hv, h⟩ := h
  exact ⟨.inr v, hv, hp, he, goes_run hω h⟩
theorem meanE_loopG {P : Program} {ω : Om} (hω : ω.Real) {σ α : Type} {F : α → Prop} {Q : α → AX → St → Prop} {p : Prop} {x : ACode} {k : KK} {s : St} (keep : List Nat) (nL : Nat) (hd : σ → St) (Inv : σ → Prop) (μ : σ → Nat) (x0 : σ)
    (h0 : fgt keep nL s = hd x0) (hi : Inv x0) (hB : ∀ e ∈ s.B, Ent.und s.B.length e) (hw : FgtOk keep nL s) (hp : p)
    (h : ∀ y, Inv y → MeanE P (RoundFG F Inv μ y) (RoundQG P Q k keep nL hd) (runc ω 100000 (.code x) .nil (hd y) True)) : MeanE P F Q (p, .loop x k s) := by
  have key : ∀ m y, μ y = m → Inv y → ∃ v, F v ∧ ∃ (n0 : Nat) (T : Nat → St → Prop), T n0 (hd y) ∧
      (∀ n s, T n s → n ≤ n0 ∧ awp P x (fun e s' => match e with | .nrm => (∀ e ∈ s'.B, Ent.und s'.B.length e) ∧ ∃ wk, FgtOk keep nL (blank wk s') ∧ ∃ m, m < n ∧ T m (fgt keep nL (blank wk s')) | e => res P k (Q v) e s') s) := by
    intro m
    induction m using Nat.strongRecOn with
    | ind m ih =>
      intro y hm hy
      obtain ⟨o, ho, h1⟩ := h y hy
      have hgo := goes_run hω h1
      cases o with
      | inr v =>
        refine ⟨v, ho, 0, fun n t => n = 0 ∧ t = hd y, ⟨rfl, rfl⟩, ?_⟩
        rintro n t ⟨rfl, rfl⟩
        refine ⟨Nat.le_refl _, awp_mono x (fun e s' hq => ?_) _ hgo⟩
        obtain ⟨he, hq⟩ := hq
        cases e with
        | nrm => exact absurd rfl he
        | exit i => exact hq
        | ret => exact hq
      | inl z =>
        obtain ⟨v, hv, n0, T, hT0, hT⟩ := ih (μ z) (by have := ho.2; omega) z rfl ho.1
        refine ⟨v, hv, n0 + 1, fun n t => T n t ∨ (n = n0 + 1 ∧ t = hd y), .inr ⟨rfl, rfl⟩, ?_⟩
        rintro n t (ht | ⟨rfl, rfl⟩)
        · obtain ⟨hn, ha⟩ := hT n t ht
          refine ⟨by omega, awp_mono x (fun e s' hq => ?_) _ ha⟩
          cases e with
          | nrm =>
            obtain ⟨a, wk, b, m', c, d⟩ := hq
            exact ⟨a, wk, b, m', c, .inl d⟩
          | exit i => exact hq
          | ret => exact hq
        · refine ⟨Nat.le_refl _, awp_mono x (fun e s' hq => ?_) _ hgo⟩
          obtain ⟨he, hB', wk, hw', hf⟩ := hq
          subst he
          exact ⟨hB', wk, hw', n0, by omega, .inl (by rw [hf]; exact hT0)⟩
  obtain ⟨v, hv, n0, T, hT0, hT⟩ := key _ x0 rfl hi
  refine ⟨v, hv, hp, ?_⟩
  exact loop_rule keep nL T hB hw n0 (by rw [h0]; exact hT0) fun n s ht => (hT n s ht).2
/-! ### The head of a loop, by the state that comes to it -/
def setAll {α : Type} (l : List α) : List (Nat × α) → List α
  | [] => l
  | x :: r => setAll (l.set x.1 x.2) r
def St.upd (s : St) (ts : List (Nat × AV)) (bs ls : List (Nat × Ent)) : St := { t := setAll s.t ts, B := setAll s.B bs, L := setAll s.L ls }
/-- A loop: what changes from round to round is told, all else is as it came. -/
theorem meanE_loopS {P : Program} {ω : Om} (hω : ω.Real) {σ α : Type} {F : α → Prop} {Q : α → AX → St → Prop} {p : Prop} {x : ACode} {k : KK} {s : St} (keep : List Nat) (ch : σ → List (Nat × AV)) (cB cL : σ → List (Nat × Ent)) (Inv : σ → Prop) (μ : σ → Nat) (x0 : σ)
    (h0 : fgt keep s.L.length s = fgt keep s.L.length (s.upd (ch x0) (cB x0) (cL x0))) (hi : Inv x0) (hB : ∀ e ∈ s.B, Ent.und s.B.length e) (hw : FgtOk keep s.L.length s) (hp : p)
    (h : ∀ y, Inv y → MeanE P (RoundFG F Inv μ y) (RoundQG P Q k keep s.L.length fun y => fgt keep s.L.length (s.upd (ch y) (cB y) (cL y))) (runc ω 100000 (.code x) .nil (fgt keep s.L.length (s.upd (ch y) (cB y) (cL y))) True)) : MeanE P F Q (p, .loop x k s) :=
  meanE_loopG hω keep s.L.length (fun y => fgt keep s.L.length (s.upd (ch y) (cB y) (cL y))) Inv μ x0 h0 hi hB hw hp h
/-- A loop that counts from 0 to N: ok holds of each round that goes on. -/
def ForInv (N : Nat) (ok : Nat → Prop) (i : Nat) : Prop := i ≤ N ∧ ∀ j, j < i → ok j
theorem meanE_loopF {P : Program} {ω : Om} (hω : ω.Real) {α : Type} {F : α → Prop} {Q : α → AX → St → Prop} {p : Prop} {x : ACode} {k : KK} {s : St} (keep : List Nat) (N : Nat) (ok : Nat → Prop) (ch : Nat → List (Nat × AV))
    (h0 : fgt keep s.L.length s = fgt keep s.L.length (s.upd (ch 0) [] [])) (hB : ∀ e ∈ s.B, Ent.und s.B.length e) (hw : FgtOk keep s.L.length s) (hp : p)
    (h : ∀ i, i ≤ N → (∀ j, j < i → ok j) → MeanE P (RoundFG F (ForInv N ok) (fun i => N - i) i) (RoundQG P Q k keep s.L.length fun y => fgt keep s.L.length (s.upd (ch y) [] [])) (runc ω 100000 (.code x) .nil (fgt keep s.L.length (s.upd (ch i) [] [])) True)) : MeanE P F Q (p, .loop x k s) :=
  meanE_loopG hω keep s.L.length (fun y => fgt keep s.L.length (s.upd (ch y) [] [])) (ForInv N ok) (fun i => N - i) 0 h0 ⟨Nat.zero_le _, fun j hj => by omega⟩ hB hw hp fun y hy => h y hy.1 hy.2
theorem forF_next {P : Program} {α : Type} {F : α → Prop} {Q : α → AX → St → Prop} {k : KK} {keep : List Nat} {nL : Nat} {hd : Nat → St} {N : Nat} {ok : Nat → Prop} {i : Nat} {p : Prop} {s : St} (hok : ∀ j, j < i → ok j)
    (hf : fgt keep nL s = hd (i + 1)) (hi : i < N) (hoki : ok i) (hB : ∀ e ∈ s.B, Ent.und s.B.length e) (hw : FgtOk keep nL s) (hp : p) : MeanE P (RoundFG F (ForInv N ok) (fun i => N - i) i) (RoundQG P Q k keep nL hd) (p, .fin .nrm s) :=
  roundG_next (i + 1) hf ⟨by omega, fun j hj => by
    by_cases h : j = i
    · subst h; exact hoki
    · exact hok j (by omega)⟩ (by omega) hB hw hp
end

/-- A call that needs the first blocks alone needs no others. -/
theorem PCalls.weaken {P : Program} {f : FuncId} {as : List AV} {H X : List Ent} {r : AV} (h : PCalls P f as H r) (hu : undL H.length as) (hr : r.und H.length) (hH : ∀ e ∈ H, Ent.und H.length e) : PCalls P f as (H ++ X) r := by
  classical
  refine ⟨h.1, fun C vals hh hC hl => ?_⟩
  let C1 : Cx := { C with H := H }
  have hlow : ∀ b, b < H.length → C1.H[b]? = C.H[b]? := fun b hb => by
    show H[b]? = _
    rw [hC, List.getElem?_append_left hb]
  have hl1 : RelL C1 as vals.toList := undL_rel (C := C) (C' := C1) (n := H.length) (fun a v h => h) hlow (fun b hb => rfl) hu hl
  have hh1 : HRel C1 := ⟨fun b e hb => by
    have hlt : b < H.length := lt_of_get hb
    exact ent_und (C := C) (C' := C1) (n := H.length) rfl rfl rfl hlow (hH e (List.mem_of_getElem? hb)) (hh.ent b e (by rw [← hlow b hlt]; exact hb)), fun b b' e e' k hne hb hb' => by
    have hlt : b < H.length := lt_of_get hb
    have hlt' : b' < H.length := lt_of_get hb'
    exact hh.inj b b' e e' k hne (by rw [← hlow b hlt]; exact hb) (by rw [← hlow b' hlt']; exact hb')⟩
  refine (h.2 C1 vals hh1 rfl hl1).mono fun e w' ⟨v, C', r', he, hw, hn, hh', hrel, hR⟩ => ?_
  obtain ⟨rfl, hH'⟩ := hR
  have hβ : ∀ b, b < H.length → C'.β b = C.β b := fun b hb => by
    have h1 : C'.H[b]? = some H[b] := by rw [hH']; exact List.getElem?_eq_getElem hb
    cases hx : H[b] with
    | mem sz rows =>
      obtain ⟨_, _, _, q⟩ := hn.mem b sz rows (by rw [h1, hx]) hb
      exact q
    | grow sz t rows =>
      obtain ⟨rows0, more, q1, q2, q3⟩ := hn.grow b sz t rows (by rw [h1, hx]) hb
      have : C1.H[b]? = some (.grow sz t rows) := by
        show H[b]? = _
        rw [List.getElem?_eq_getElem hb, hx]
      rw [this] at q1
      cases q1
      exact q3 (by simpa using q2)
  have hXblk : ∀ b e k, H.length ≤ b → C.H[b]? = some e → blockOf (C.β b) = some k → k < C.w.heap.size ∧ w'.heap[k]? = C.w.heap[k]? ∧ C'.S k = C.S k := fun b e k hb he hk => by
    have hlt := (hh.ent b e he).block hk
    have := hn.frame k hlt fun b2 e2 h2 hk2 => by
      have hlt2 : b2 < H.length := lt_of_get h2
      exact hh.inj b2 b e2 e k (by omega) (by rw [← hlow b2 hlt2]; exact h2) he hk2 hk
    exact ⟨hlt, by rw [← hw]; exact this.1, this.2⟩
  let C2 : Cx := { w := w', S := C'.S, β := C.β, H := H ++ X }
  have hrd : C2.rd = C'.rd := by subst hw; rfl
  have hn2 : Nxt C C2 := {
    os := by show w'.os = _; rw [← hw]; exact hn.os
    tape := by show w'.tape = _; rw [← hw]; exact hn.tape
    output := by show w'.output = _; rw [← hw]; exact hn.output
    size := by show _ ≤ w'.heap.size; rw [← hw]; exact hn.size
    rd := fun a v ha => by rw [hrd]; exact hn.rd a v ha
    len := by rw [hC]; exact Nat.le_refl _
    mem := fun b sz rows hb _ => ⟨rows, by rw [hC]; exact hb, rfl, rfl⟩
    grow := fun b sz e rows hb _ => ⟨rows, [], by rw [hC]; exact hb, by simp, fun _ => rfl⟩
    frame := fun k hk hno => by
      have := hn.frame k hk fun b e hb => hno b e (by rw [← hlow b (lt_of_get hb)]; exact hb)
      exact ⟨by show w'.heap[k]? = _; rw [← hw]; exact this.1, this.2⟩
    frz := fun a => by show w'.frozen? a = _; rw [← hw]; exact hn.frz a
    own := fun b e k hb hk => .inr ⟨e, by rw [hC]; exact hb, hk⟩ }
  have hget : ∀ b, b < H.length → C2.H[b]? = C'.H[b]? := fun b hb => by
    show (H ++ X)[b]? = _
    rw [hH', List.getElem?_append_left hb]
  refine ⟨v, C2, r', he, rfl, hn2, ⟨fun b e hb => ?_, fun b b' e e' k hne hb hb' => hh.inj b b' e e' k hne (by rw [hC]; exact hb) (by rw [hC]; exact hb')⟩, ?_, rfl, rfl⟩
  · by_cases hlt : b < H.length
    · have h1 : C'.H[b]? = some e := by rw [← hget b hlt]; exact hb
      have h2 := hh'.ent b e h1
      have hu2 : Ent.und H.length e := hH e (List.mem_of_getElem? (by rw [hH'] at h1; exact h1))
      cases e with
      | grow sz ty rows =>
        obtain ⟨xs, g0, g1, g2, g3, g4⟩ := h2
        exact ⟨xs, g0, by show w'.ownsRow 0 ty sz (C.β b) rows.length xs; rw [← hw, ← hβ b hlt]; exact g1, by show ∀ k, blockOf (C.β b) = some k → C'.S k = _; rw [← hβ b hlt]; exact g2, g3, by rw [hrd]; exact g4⟩
      | mem sz rows =>
        obtain ⟨k, ty, cs, g1, g2, g3, g4, g5, g6⟩ := h2
        refine ⟨k, ty, cs, by show C.β b = _; rw [← hβ b hlt]; exact g1, by show w'.heap[k]? = _; rw [← hw]; exact g2, g3, g4, g5, fun i j row a hi hj => ?_⟩
        obtain ⟨v, hv, hrr⟩ := g6 i j row a hi hj
        exact ⟨v, hv, und_rel (C := C') (C' := C2) (n := H.length) (fun a v h => by rw [hrd]; exact h) hget (fun b hb => (hβ b hb).symm) (undL_get (hu2 row (List.mem_of_getElem? hi)) j a hj) hrr⟩
    · have hCb : C.H[b]? = some e := by rw [hC]; exact hb
      refine (hh.ent b e hCb).keep hn2 rfl fun k hk => ?_
      obtain ⟨_, q1, q2⟩ := hXblk b e k (by omega) hCb hk
      exact ⟨q1, q2⟩
  · exact und_rel (C := C') (C' := C2) (n := H.length) (fun a v h => by rw [hrd]; exact h) hget (fun b hb => (hβ b hb).symm) hr hrel

def tnil : Tbl := fun _ => none
def tcons (n : FuncId) (x : ACode × Nat × List RV) (T : Tbl) : Tbl := fun f => bif f == n then some x else T f
theorem tblOk_nil {P : Program} : TblOk P tnil := ⟨fun _ _ _ _ h => by cases h⟩
theorem tblOk_cons {P : Program} {n : FuncId} {ac : ACode} {k : Nat} {rvs : List RV} {T : Tbl} (h : FnIs P n ac k rvs) (hT : TblOk P T) : TblOk P (tcons n (ac, k, rvs) T) := ⟨fun f ac' k' rvs' hf => by
  unfold tcons at hf
  cases hb : (f == n) with
  | true =>
    rw [hb] at hf
    simp only [cond_true, Option.some.injEq, Prod.mk.injEq] at hf
    obtain ⟨rfl, rfl, rfl⟩ := hf
    have : f = n := by simpa using hb
    subst this
    exact h
  | false =>
    rw [hb] at hf
    exact hT.is f ac' k' rvs' hf⟩
end Go.Den
