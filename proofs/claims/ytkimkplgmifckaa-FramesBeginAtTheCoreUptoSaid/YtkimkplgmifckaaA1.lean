/-
  Part of the proof that FramesBeginAtTheCore returns true: the operations that change memory, calls, regions in open order.
  No condition.
-/
import Derived.Orders
import Derived.Test.YtkimkplgmifckaaA0
set_option linter.unusedSimpArgs false
set_option linter.unusedVariables false
namespace Go.Den
section
variable {P : Program} {C : Cx} {a : Act} {own : Nat}

theorem flat_get {α : Type} (l : List α) (h0 : 0 < l.length) : ∀ (n j : Nat), (List.replicate n l).flatten[j]? = if j < n * l.length then l[j % l.length]? else none
  | 0, j => by simp
  | n + 1, j => by
    rw [List.replicate_succ, List.flatten_cons]
    by_cases h : j < l.length
    · rw [List.getElem?_append_left h, if_pos (by rw [Nat.succ_mul]; omega), Nat.mod_eq_of_lt h]
    · rw [List.getElem?_append_right (by omega), flat_get l h0 n]
      rw [Nat.succ_mul]
      by_cases h2 : j - l.length < n * l.length
      · rw [if_pos h2, if_pos (by omega), ← Nat.mod_eq_sub_mod (by omega)]
      · rw [if_neg h2, if_neg (by omega)]
theorem zero_cells (z : Array Value) (h0 : 0 < z.size) (n : Nat) : ((Array.range (n * z.size)).map fun j => z[j % z.size]!).toList = (List.replicate n z.toList).flatten := by
  apply List.ext_getElem?
  intro j
  rw [flat_get z.toList (by simpa using h0)]
  simp only [Array.toList_map, Array.toList_range, List.getElem?_map, Array.length_toList]
  by_cases h : j < n * z.size
  · rw [List.getElem?_range h, if_pos h]
    have : j % z.size < z.size := Nat.mod_lt _ h0
    simp [this]
  · rw [if_neg h, List.getElem?_eq_none (by simp; omega)]; rfl
theorem relL_flat {as : List AV} {vs : List Value} (h : RelL C as vs) : ∀ n, RelL C (List.replicate n as).flatten (List.replicate n vs).flatten
  | 0 => trivial
  | n + 1 => by
    rw [List.replicate_succ, List.flatten_cons, List.replicate_succ, List.flatten_cons]
    exact h.append (relL_flat h n)
theorem rowsFrom_get (sz : Nat) : ∀ (n : Nat) (cs : List AV) (i : Nat), (rowsFrom sz n cs)[i]? = if i < n then some ((cs.drop (i * sz)).take sz) else none
  | 0, cs, i => by simp [rowsFrom]
  | n + 1, cs, 0 => by simp [rowsFrom]
  | n + 1, cs, i + 1 => by
    simp only [rowsFrom, List.getElem?_cons_succ, rowsFrom_get sz n, List.drop_drop, Nat.succ_mul, Nat.add_lt_add_iff_right]
    rw [Nat.add_comm sz]
theorem rowsFrom_length (sz : Nat) : ∀ (n : Nat) (cs : List AV), (rowsFrom sz n cs).length = n
  | 0, _ => rfl
  | n + 1, cs => by simp [rowsFrom, rowsFrom_length sz n]

/-- A new row of memory that the call owns, and the slice over it. -/
theorem newRow_own (hH : HRel C) {s : St} (hs : C.H = s.B ++ s.L) {o : Oper} {t : TypeId} {cells : Array Value} {n sz : Nat} (hrun : (execOp a.eval o).run P C.w = .ok (.value (.slice (some ⟨C.w.heap.size, 0, none⟩) n n)) (C.w.alloc (.cells cells t)))
    {cs : List AV} (hcs : RelL C cs cells.toList) (hl : cs.length = n * sz) : Does P C a o { s with L := s.L ++ [.mem sz (rowsFrom sz n cs)] } (.os (lid s.B.length s.L.length) 0 n) := by
  have hv : blockOf (ownPtr C.w.heap.size 0) = some C.w.heap.size := rfl
  have hm := more_alloc C.w cells t
  have hn := withNew_nxt hm 0 (ownPtr C.w.heap.size 0) hv [.mem sz (rowsFrom sz n cs)] (by simp)
  have hlen : lid s.B.length s.L.length = C.H.length := by rw [lid_eq, hs]; simp
  have hcl : cells.size = n * sz := by have := hcs.length; simp at this; omega
  refine ⟨withNew C (C.w.alloc (.cells cells t)) 0 (ownPtr C.w.heap.size 0) [.mem sz (rowsFrom sz n cs)], _, .inl hrun, hn, withNew_hrel hH hm 0 _ hv _ (by simp) ?_, by simp [withNew, hs], ?_⟩
  · intro e he
    simp only [List.mem_singleton] at he
    subst he
    refine ⟨C.w.heap.size, t, cells, by simp [withNew], hm.new, by simp [withNew], by rw [rowsFrom_length]; exact hcl, fun i row hi => ?_, fun i j row av hi hj => ?_⟩
    · rw [rowsFrom_get] at hi
      split at hi
      · rename_i hlt
        rw [← Option.some.inj hi, List.length_take, List.length_drop, hl]
        have : i * sz + sz ≤ n * sz := by rw [← Nat.succ_mul]; exact Nat.mul_le_mul_right _ hlt
        omega
      · cases hi
    · rw [rowsFrom_get] at hi
      split at hi
      · rw [← Option.some.inj hi] at hj
        obtain ⟨u, hu, hr⟩ := (RelL.nxt hn hcs).get _ av (take_drop_get hj).1
        exact ⟨u, by simpa using hu, hr⟩
      · cases hi
  · rw [hlen]
    exact ⟨sz, rowsFrom sz n cs, C.w.heap.size, n, by simp [withNew], by simp [withNew], by simp, by rw [rowsFrom_length]; omega, Nat.le_refl _⟩

/-- A new row of memory that nobody stores into. -/
theorem newRow_closed (hH : HRel C) {s : St} (hs : C.H = s.B ++ s.L) {o : Oper} {t : TypeId} {cells : Array Value} {n sz : Nat} (hrun : (execOp a.eval o).run P C.w = .ok (.value (.slice (some ⟨C.w.heap.size, 0, none⟩) n n)) (C.w.alloc (.cells cells t)))
    {cs : List AV} (hcs : RelL C cs cells.toList) (hl : cs.length = n * sz) {rows : List (List CV)} (hc : closeRows s.look (rowsFrom sz n cs) = some rows) : Does P C a o s (.c (.sl rows)) := by
  have hv : blockOf (ownPtr C.w.heap.size 0) = some C.w.heap.size := rfl
  have hm := more_alloc C.w cells t
  have hn := withNew_nxt hm (n * sz) (ownPtr C.w.heap.size 0) hv [] (by simp)
  have hcl : cells.size = n * sz := by have := hcs.length; simp at this; omega
  have hlk : ∀ b, s.look b = C.H[b]? := fun b => by unfold St.look; rw [hs]
  obtain ⟨hrl0, hr⟩ := closeRows_get hc
  have hrl : rows.length = n := by rw [hrl0, rowsFrom_length]
  have hget : ∀ (i : Nat) row, rows[i]? = some row → i < n ∧ row.length = ((cs.drop (i * sz)).take sz).length ∧ ∀ (j : Nat) c, row[j]? = some c → ∃ a, ((cs.drop (i * sz)).take sz)[j]? = some a ∧ AV.close s.look a = some c := fun i row hi => by
    obtain ⟨row', h1, h2, h3⟩ := hr i row hi
    rw [rowsFrom_get] at h1
    split at h1
    · cases h1; exact ⟨by assumption, h2, h3⟩
    · cases h1
  have hlen : ∀ (i : Nat) row, rows[i]? = some row → row.length = sz := fun i row hi => by
    obtain ⟨h1, h2, _⟩ := hget i row hi
    rw [List.length_take, List.length_drop, hl] at h2
    have h3 : i * sz + sz ≤ n * sz := by rw [← Nat.succ_mul]; exact Nat.mul_le_mul_right _ h1
    omega
  refine ⟨withNew C (C.w.alloc (.cells cells t)) (n * sz) (ownPtr C.w.heap.size 0) [], _, .inl hrun, hn, withNew_hrel hH hm _ _ hv _ (by simp) (by simp), by simp [withNew, hs], ?_⟩
  have key := RelC.mk (rd := (withNew C (C.w.alloc (.cells cells t)) (n * sz) (ownPtr C.w.heap.size 0) []).rd) (rows := rows) (ad := some ⟨C.w.heap.size, 0, none⟩) (cap := n) (sz := sz) (by omega) (fun _ => rfl) hlen (fun a i j row c ha hi hj => by
    cases ha
    obtain ⟨h1, _, h2⟩ := hget i row hi
    have hjl : j < sz := by rw [← hlen i row hi]; exact lt_of_get hj
    have h3 : i * sz + sz ≤ n * sz := by rw [← Nat.succ_mul]; exact Nat.mul_le_mul_right _ h1
    obtain ⟨x, h4, hcl⟩ := h2 j c hj
    obtain ⟨u, hu, hrel⟩ := hcs.get _ _ (take_drop_get h4).1
    refine ⟨u, ?_, RelC.mono hn.rd (close_rel hlk hcl hrel)⟩
    rw [addr_add_lit, Nat.zero_add]
    have h5 : i * sz + j < n * sz := by omega
    simp only [Cx.rd, withNew, if_true, if_pos h5]
    unfold World.cell?
    rw [hm.new]
    simpa using hu)
  rw [hrl] at key
  exact key

/-- A new row of memory that goes on growing. -/
theorem newRow_grow (hH : HRel C) {s : St} (hs : C.H = s.B ++ s.L) {o : Oper} {t : TypeId} {cells : Array Value} {n sz : Nat} (hrun : (execOp a.eval o).run P C.w = .ok (.value (.slice (some ⟨C.w.heap.size, 0, none⟩) n n)) (C.w.alloc (.cells cells t)))
    {cs : List AV} (hcs : RelL C cs cells.toList) (hl : cs.length = n * sz) (h0 : 0 < sz) (hmax : n ≤ maxLen) {rows : List (List CV)} (hc : closeRows s.look (rowsFrom sz n cs) = some rows) : Does P C a o { s with L := s.L ++ [.grow sz t rows] } (.gs (lid s.B.length s.L.length) n) := by
  let v0 : Value := .slice (some ⟨C.w.heap.size, 0, none⟩) n n
  have hv : blockOf v0 = some C.w.heap.size := rfl
  have hm := more_alloc C.w cells t
  have hn := withNew_nxt hm (n * sz) v0 hv [.grow sz t rows] (by simp)
  have hlen : lid s.B.length s.L.length = C.H.length := by rw [lid_eq, hs]; simp
  have hcl : cells.size = n * sz := by have := hcs.length; simp at this; omega
  have hlk : ∀ b, s.look b = C.H[b]? := fun b => by unfold St.look; rw [hs]
  obtain ⟨hrl0, hr⟩ := closeRows_get hc
  have hrl : rows.length = n := by rw [hrl0, rowsFrom_length]
  have hget : ∀ (i : Nat) row, rows[i]? = some row → i < n ∧ row.length = ((cs.drop (i * sz)).take sz).length ∧ ∀ (j : Nat) c, row[j]? = some c → ∃ a, ((cs.drop (i * sz)).take sz)[j]? = some a ∧ AV.close s.look a = some c := fun i row hi => by
    obtain ⟨row', h1, h2, h3⟩ := hr i row hi
    rw [rowsFrom_get] at h1
    split at h1
    · cases h1; exact ⟨by assumption, h2, h3⟩
    · cases h1
  have hrlen : ∀ (i : Nat) row, rows[i]? = some row → row.length = sz := fun i row hi => by
    obtain ⟨h1, h2, _⟩ := hget i row hi
    rw [List.length_take, List.length_drop, hl] at h2
    have h3 : i * sz + sz ≤ n * sz := by rw [← Nat.succ_mul]; exact Nat.mul_le_mul_right _ h1
    omega
  have hcell : ∀ (i j : Nat) row c, rows[i]? = some row → row[j]? = some c → i * sz + j < n * sz ∧ ∃ u, cells.toList[i * sz + j]? = some u ∧ RelC C.rd c u := fun i j row c hi hj => by
    obtain ⟨h1, _, h2⟩ := hget i row hi
    have hjl : j < sz := by rw [← hrlen i row hi]; exact lt_of_get hj
    have h3 : i * sz + sz ≤ n * sz := by rw [← Nat.succ_mul]; exact Nat.mul_le_mul_right _ h1
    obtain ⟨x, h4, hcl⟩ := h2 j c hj
    obtain ⟨u, hu, hrel⟩ := hcs.get _ _ (take_drop_get h4).1
    exact ⟨by omega, u, hu, close_rel hlk hcl hrel⟩
  have hβ : (withNew C (C.w.alloc (.cells cells t)) (n * sz) v0 [.grow sz t rows]).β C.H.length = v0 := by simp [withNew]
  have hown : (C.w.alloc (.cells cells t)).ownsRow 0 t sz v0 n cells.toList := by
    refine ⟨by simpa using hcl, .inr ⟨C.w.heap.size, n, cells, rfl, Nat.zero_le _, hm.new, Nat.le_refl _, hmax, hcl, ?_⟩⟩
    rw [List.take_of_length_le (by simp; omega)]
  refine ⟨withNew C (C.w.alloc (.cells cells t)) (n * sz) v0 [.grow sz t rows], v0, .inl hrun, hn, withNew_hrel hH hm (n * sz) _ hv _ (by simp) ?_, by simp [withNew, hs], ?_⟩
  · intro e he
    simp only [List.mem_singleton] at he
    subst he
    refine ⟨cells.toList, h0, by rw [hβ, hrl]; exact hown, fun k hk => ?_, hrlen, fun i j row c hi hj => ?_⟩
    · rw [hβ, hv] at hk
      cases hk
      simp [withNew, hrl]
    · obtain ⟨_, u, hu, hrel⟩ := hcell i j row c hi hj
      exact ⟨u, hu, RelC.mono hn.rd hrel⟩
  · rw [hlen]
    have key := RelC.mk (rd := (withNew C (C.w.alloc (.cells cells t)) (n * sz) v0 [.grow sz t rows]).rd) (rows := rows) (ad := some ⟨C.w.heap.size, 0, none⟩) (cap := n) (sz := sz) (by omega) (fun _ => rfl) hrlen (fun a i j row c ha hi hj => by
      cases ha
      obtain ⟨h5, u, hu, hrel⟩ := hcell i j row c hi hj
      refine ⟨u, ?_, RelC.mono hn.rd hrel⟩
      rw [addr_add_lit, Nat.zero_add]
      simp only [Cx.rd, withNew, if_true, if_pos h5]
      unfold World.cell?
      rw [hm.new]
      simpa using hu)
    rw [hrl] at key
    refine ⟨sz, t, rows, by simp [withNew], by omega, ?_, fun _ => hβ.symm⟩
    rw [List.take_of_length_le (by omega)]
    exact key

theorem does_bslice (hH : HRel C) {s : St} (hs : C.H = s.B ++ s.L) {o : Oper} {t e : TypeId} {i : TypeInfo} {z : Value} {n : Nat} {parts : Array (Nat × Operand)} (ho : o.op = .buildSlice t n parts) (hu : P.underlying t = some (.slice e)) (hi : P.info? e = some i) (hz : i.zero = some z)
    (hsz : n * i.size ≤ 16777216) (hzs : z.cells.size = i.size) (h0 : 0 < i.size) {qs : List (Nat × Nat × Opd)} (hqs : cParts P (fun j => some (j * i.size, i.size)) parts.toList = some qs) {ev : Opd → AV}
    (hev : ∀ x y, cOpd x = some y → y ∈ qs.map (·.2.2) → Rel C (ev y) (a.eval x)) {cs : List AV} (hf : fillA ((List.replicate n (z.cells.toList.map fun v => AV.c (.sc v))).flatten) (qs.map fun p => (p.1, p.2.1, ev p.2.2)) = some cs) :
    Does P C a o { s with L := s.L ++ [.mem i.size (rowsFrom i.size n cs)] } (.os (lid s.B.length s.L.length) 0 n) ∧ ∀ rows, closeRows s.look (rowsFrom i.size n cs) = some rows → Does P C a o s (.c (.sl rows)) ∧ Does P C a o { s with L := s.L ++ [.grow i.size e rows] } (.gs (lid s.B.length s.L.length) n) := by
  have hparts := partsRel_of (P := P) (S := qs.map (·.2.2)) hev parts.toList qs hqs (fun q hq => by simp only [List.mem_map]; exact ⟨q, hq, rfl⟩)
  have hbase : RelL C (List.replicate n (z.cells.toList.map fun v => AV.c (.sc v))).flatten ((Array.range (n * z.cells.size)).map fun j => z.cells[j % z.cells.size]!).toList := by
    rw [zero_cells _ (by omega)]
    exact relL_flat (relL_vals _) n
  obtain ⟨cells', hfill, hres⟩ := fill_rel (P := P) (a := a) (ev := ev) hqs hparts hbase hf
  have hrun : (execOp a.eval o).run P C.w = .ok (.value (.slice (some ⟨C.w.heap.size, 0, none⟩) n n)) (C.w.alloc (.cells cells' e)) := by
    have h1 : ¬ n * i.size > 2 ^ 24 := by omega
    have hz' : ∀ w, (zeroValue e).run P w = .ok z w := fun w => by simp [zeroValue, typeInfo, hi, hz]
    have hfill' : Instr.fill (fun j => some (j * i.size, i.size)) ((Array.range (n * i.size)).map fun j => z.cells[j % i.size]!) ((parts.map fun p => (p.1, a.eval p.2)).toList) = some cells' := by
      rw [hzs] at hfill; simpa using hfill
    have e1 : (parts.map fun (x : Nat × Operand) => match x with | (i, x) => (i, a.eval x)) = parts.map fun p => (p.1, a.eval p.2) := rfl
    simp only [execOp, ho, e1, Instr.buildSlice, Sem.run_bind, run_underlying hu, Result.andThen, run_sizeOf' hi, if_neg h1]
    by_cases hn : n * i.size = 0
    · have hn0 : n = 0 := by
        rcases Nat.mul_eq_zero.1 hn with h | h <;> omega
      subst hn0
      simp only [Nat.zero_mul] at hfill' ⊢
      simp only [if_true, Sem.run_bind, Sem.run_pure, Result.andThen]
      have e2 : ((Array.range 0).map fun x => (#[] : Array Value)[x % (#[] : Array Value).size]!) = ((Array.range 0).map fun j => z.cells[j % i.size]!) := by simp
      rw [e2, hfill']
      simp [newRow, pure]
    · simp only [if_neg hn, Sem.run_bind, hz', Sem.run_pure, Result.andThen, hzs, hfill']
      simp [newRow, pure]
  have hlen : ∀ {as : List AV} {ps : List (Nat × Nat × AV)} {as' : List AV}, fillA as ps = some as' → as'.length = as.length := by
    intro as ps
    induction ps generalizing as with
    | nil => intro as' h; simp only [fillA, Option.some.injEq] at h; rw [h]
    | cons p ps ih =>
      intro as' h
      obtain ⟨off, size, v⟩ := p
      simp only [fillA] at h
      split at h
      · rename_i hc
        rw [ih h]
        simp only [List.length_append, List.length_take, List.length_drop]
        omega
      · cases h
  have hcs : cs.length = n * i.size := by rw [hlen hf]; simp [hzs]
  have hmaxn : n ≤ maxLen := by
    have : n * 1 ≤ n * i.size := Nat.mul_le_mul_left _ h0
    unfold maxLen; omega
  exact ⟨newRow_own hH hs hrun hres hcs, fun rows hr => ⟨newRow_closed hH hs hrun hres hcs hr, newRow_grow hH hs hrun hres hcs h0 hmaxn hr⟩⟩

theorem replicate_rows (sz : Nat) (l : List AV) (hl : l.length = sz) : ∀ n, rowsFrom sz n (List.replicate n l).flatten = List.replicate n l
  | 0 => rfl
  | n + 1 => by
    rw [List.replicate_succ, List.flatten_cons, rowsFrom, List.take_left' hl, List.drop_left' hl, replicate_rows sz l hl n]

theorem does_msl (hH : HRel C) {s : St} (hs : C.H = s.B ++ s.L) {o : Oper} {t e : TypeId} {i : TypeInfo} {z : Value} {l c : Operand} (ho : o.op = .makeSlice t l c) (hu : P.underlying t = some (.slice e)) (hi : P.info? e = some i) (hz : i.zero = some z)
    (hzs : z.cells.size = i.size) (h0 : 0 < i.size) {k k' : IntKind} {n : Int} (hl : a.eval l = .int k n) (hc : a.eval c = .int k' n) (hn0 : 0 ≤ n) (hb : n * i.bytes ≤ 140737488355328) (hmax : n ≤ 9223372036854775807) :
    Does P C a o { s with L := s.L ++ [.mem i.size (List.replicate n.toNat (z.cells.toList.map fun v => .c (.sc v)))] } (.os (lid s.B.length s.L.length) 0 n.toNat) := by
  obtain ⟨m, rfl⟩ := Int.eq_ofNat_of_zero_le hn0
  have hw : IntKind.i64.wrap (m : Int) = m := by
    have : (IntKind.i64.wrap (m : Int)) = if ((m : Int) % 18446744073709551616) ≥ 9223372036854775808 then (m : Int) % 18446744073709551616 - 18446744073709551616 else (m : Int) % 18446744073709551616 := by
      simp [IntKind.wrap, IntKind.bits, IntKind.signed]
    rw [this]; omega
  have hrun : (execOp a.eval o).run P C.w = .ok (.value (.slice (some ⟨C.w.heap.size, 0, none⟩) m m)) (C.w.alloc (.cells ((Array.range (m * z.cells.size)).map fun j => z.cells[j % z.cells.size]!) e)) := by
    have h1 : ¬ ((m : Int) < 0) := by omega
    have h2 : ¬ ((i.bytes : Int) * (m : Int) > 2 ^ 48) := by
      rw [Int.mul_comm]; omega
    have h3 : ¬ (m * i.bytes > roomBytes) := by
      have : ((m * i.bytes : Nat) : Int) ≤ 140737488355328 := by push_cast; exact hb
      simp only [roomBytes]; omega
    have hz' : ∀ w, (zeroValue e).run P w = .ok z w := fun w => by simp [zeroValue, typeInfo, hi, hz]
    have ht : (typeInfo e).run P C.w = .ok i C.w := by simp [typeInfo, hi]
    simp only [execOp, ho, Instr.makeSlice, Sem.run_bind, run_underlying hu, Result.andThen, hl, hc, asInt, asIntOf, Sem.run_pure, ht, hw]
    have hcond : ((decide ((m : Int) < 0) || decide ((i.bytes : Int) * (m : Int) > 2 ^ 48)) || decide ((m : Int) < 0) || decide ((m : Int) > (m : Int))) = false := by
      simp; omega
    simp only [hcond, Bool.false_eq_true, if_false]
    simp only [Sem.run_bind, askRoom, Int.toNat_natCast, if_neg h3, Sem.run_pure, Result.andThen, run_sizeOf' hi]
    by_cases hn : m * i.size = 0
    · have hn0 : m = 0 := by
        rcases Nat.mul_eq_zero.1 hn with h | h <;> omega
      subst hn0
      have e0 : ∀ f : Nat → Value, (Array.range 0).map f = #[] := fun f => by apply Array.ext'; simp
      simp [newRow, pure, e0]
    · simp only [if_neg hn, Sem.run_bind, hz', Sem.run_pure, Result.andThen, hzs]
      simp [newRow, pure]
  have hbase : RelL C (List.replicate m (z.cells.toList.map fun v => AV.c (.sc v))).flatten ((Array.range (m * z.cells.size)).map fun j => z.cells[j % z.cells.size]!).toList := by
    rw [zero_cells _ (by omega)]
    exact relL_flat (relL_vals _) m
  have := newRow_own (P := P) (a := a) (o := o) (sz := i.size) hH hs hrun hbase (by simp [hzs])
  rw [replicate_rows _ _ (by simpa using hzs)] at this
  simpa using this

/-- A slice of the call's own, appended to: in place, or in a new row. -/
theorem run_append2 (w : World) (t ty e : TypeId) (i : TypeInfo) (z : Value) (ht : P.underlying t = some (.slice e)) (hi : P.info? e = some i) (hz : i.zero = some z) (hzs : z.cells.size = i.size) (hsz : 0 < i.size)
    (v : Value) (n : Nat) (xs : List Value) (hown : w.ownsRow 0 e i.size v n xs) (ad : Option Addr) (m c : Nat) (hne : m ≠ 0 → ad.isSome = true) (news : List Value) (hl : news.length = m * i.size)
    (hnews : ∀ a j u, ad = some a → news[j]? = some u → w.cell? (a.add j) = some u) (h1 : ∀ u ∈ news, u.oneCell' = true) (h63 : n + m ≤ maxLen) (hbytes : (n + m) * i.bytes ≤ 140737488355328) :
    ∃ v' w', (Builtin.append_ #[t, t] ty #[v, .slice ad m c]).run P w = .ok v' w' ∧ w'.ownsRow 0 e i.size v' (n + m) (xs ++ news) ∧ w.grownBy w' v.ownBlock ∧ (v'.ownBlock = v.ownBlock ∨ (v'.ownBlock = some w.heap.size ∧ ∀ j, j < w.heap.size → w'.heap[j]? = w.heap[j]?)) ∧ (m = 0 → v' = v ∧ w' = w) ∧ (∀ a, w'.frozen? a = w.frozen? a) := by
  have hlen : (xs ++ news).length = (n + m) * i.size := by rw [List.length_append, hown.1, hl, Nat.add_mul]
  by_cases hm : m = 0
  · subst hm
    have hn : news = [] := List.eq_nil_of_length_eq_zero (by simpa using hl)
    subst hn
    have hle : ∃ base len cap, v = .slice base len cap ∧ len = n ∧ len ≤ cap := by
      rcases hown.2 with ⟨rfl, rfl⟩ | ⟨g, cap, cur, rfl, _, _, hnc, _⟩
      · exact ⟨none, 0, 0, rfl, rfl, Nat.le_refl _⟩
      · exact ⟨_, _, cap, rfl, rfl, hnc⟩
    obtain ⟨base, len, cap, rfl, rfl, hcap⟩ := hle
    refine ⟨_, w, ?_, by simpa using hown, ⟨rfl, rfl, rfl, Nat.le_refl _, fun _ _ _ => rfl⟩, .inl rfl, fun _ => ⟨rfl, rfl⟩, fun _ => rfl⟩
    cases base <;> cases ad <;> simp [Builtin.append_, run_underlying ht, sizeOf, typeInfo, hi, Builtin.lenOf, Builtin.firstCells, loadCells, loadCellsFrom, hcap, storeCells, pure]
  · obtain ⟨a0, rfl⟩ := Option.isSome_iff_exists.1 (hne hm)
    have hnews' : ∀ j u, news[j]? = some u → w.cell? (a0.add j) = some u := fun j u => hnews a0 j u rfl
    have hsmall : n + m ≤ 9223372036854775807 := by simp only [maxLen] at h63; omega
    have grown : ∀ (old : Nat), old < n + m → ∀ (row : Option Nat),
        (w.drew.alloc (.cells (xs.toArray ++ news.toArray ++ Builtin.zeroCells z.cells (grownCap w (n + m) old e - (n + m))) e)).ownsRow 0 e i.size
          (.slice (some ⟨w.heap.size, 0, none⟩) (n + m) (grownCap w (n + m) old e)) (n + m) (xs ++ news) ∧
        w.grownBy (w.drew.alloc (.cells (xs.toArray ++ news.toArray ++ Builtin.zeroCells z.cells (grownCap w (n + m) old e - (n + m))) e)) row := by
      intro old ho row
      have hge := grownCap_ge w (n + m) old e
      have hcm := grownCap_le_maxLen w (n + m) old e h63
      refine ⟨⟨hlen, .inr ⟨w.heap.size, _, _, rfl, Nat.zero_le _, heap_alloc_new w.drew _, hge, hcm, ?_, ?_⟩⟩, ⟨rfl, rfl, rfl, by simp, fun k hk _ => heap_alloc_old w.drew _ hk⟩⟩
      · simp only [Array.size_append, List.size_toArray, size_zeroCells, hzs, hown.1, hl, ← Nat.add_mul]
        rw [Nat.add_sub_cancel' hge]
      · simp only [Array.toList_append, List.append_assoc]
        rw [← List.append_assoc, ← hlen]
        exact List.take_left
    rcases hown.2 with ⟨rfl, rfl⟩ | ⟨g, cap, cur, rfl, hbg, hg, hnc, hcm, hcs, htake⟩
    · have hx : xs = [] := List.eq_nil_of_length_eq_zero (by simpa using hown.1)
      subst hx
      have hr := run_append_nil (P := P) w t ty e i z ht hi hz a0 m c news hl hnews' (by omega) (by omega) (by have hb := hbytes; simp only [Nat.zero_add] at hb; omega)
      have hgr := grown 0 (by omega) (Value.ownBlock (.slice none 0 0))
      simp only [Nat.zero_add, List.nil_append, Array.empty_append] at hgr ⊢
      exact ⟨_, _, hr, hgr.1, hgr.2, .inr ⟨rfl, fun j hj => heap_alloc_old w.drew _ hj⟩, fun h => absurd h hm, Go.RowKit.frozen?_alloc_cells w.drew _ _⟩
    · by_cases hroom : n + m ≤ cap
      · have hfit : n * i.size + news.length ≤ cur.size := by rw [hl, hcs, ← Nat.add_mul]; exact Nat.mul_le_mul_right _ hroom
        have hr := run_append_room (P := P) w t ty e i ht hi g n cap cur hg a0 m c news hl hnews' h1 hroom hfit
        refine ⟨_, _, hr, ⟨hlen, .inr ⟨g, cap, _, rfl, hbg, setRow_heap w g cur _ e _ hg, hroom, hcm, ?_, ?_⟩⟩, ⟨rfl, rfl, rfl, by simp, fun k _ hk => setRow_other w g k _ (fun e => hk (by simp [Value.ownBlock, e]))⟩, .inl rfl, fun h => absurd h hm, frozen_setRow _ _ _⟩
        · simp only [List.size_toArray, List.length_append, List.length_take, List.length_drop, Array.length_toList]
          omega
        · rw [htake, ← hlen]
          exact List.take_left
      · have holds : ∀ j u, xs[j]? = some u → w.cell? ((⟨g, 0, none⟩ : Addr).add j) = some u := hown.cells (g := g) rfl
        have hr := run_append_grow (P := P) w t ty e i z ht hi hz ⟨g, 0, none⟩ n cap xs hown.1 holds a0 m c news hl hnews' (by omega) (by omega) (growslice_fits (by omega) hbytes)
        have hgr := grown cap (by omega) (Value.ownBlock (.slice (some ⟨g, 0, none⟩) n cap))
        exact ⟨_, _, hr, hgr.1, hgr.2, .inr ⟨rfl, fun j hj => heap_alloc_old w.drew _ hj⟩, fun h => absurd h hm, Go.RowKit.frozen?_alloc_cells w.drew _ _⟩

/-- The cells of rows, as values. -/
theorem reads_vals {rows : List (List CV)} {x : Value} (h : Reads C rows x) {sz : Nat} (hsz : ∀ (i : Nat) row, rows[i]? = some row → row.length = sz ∧ row.all CV.one = true) : ∃ (ad : Option Addr) (cap : Nat) (news : List Value), x = .slice ad rows.length cap ∧ (rows.length ≠ 0 → ad.isSome = true) ∧ news.length = rows.length * sz ∧
    (∀ a j u, ad = some a → news[j]? = some u → C.w.cell? (a.add j) = some u) ∧ (∀ u ∈ news, u.oneCell' = true) ∧ (∀ (i j : Nat) row c, rows[i]? = some row → row[j]? = some c → ∃ v, news[i * sz + j]? = some v ∧ RelC C.rd c v) := by
  classical
  obtain ⟨ad, cap, sz', hx, hcap, hne, hsz', hcell⟩ := h
  by_cases h0 : rows = []
  · subst h0
    exact ⟨ad, cap, [], hx, fun h => absurd rfl h, by simp, (fun a j u _ h => by simp at h), (fun u h => by cases h), (fun i j row c h => by simp at h)⟩
  · obtain ⟨a0, rfl⟩ := Option.isSome_iff_exists.1 (hne h0)
    have hse : sz' = sz := by
      cases rows with
      | nil => exact absurd rfl h0
      | cons r rs => rw [← hsz' 0 r rfl]; exact (hsz 0 r rfl).1
    subst hse
    have hdm : ∀ j, j < rows.length * sz' → ∃ v, C.w.cell? (a0.add j) = some v ∧ v.oneCell' = true ∧ ∀ (row : List CV) c, rows[j / sz']? = some row → row[j % sz']? = some c → RelC C.rd c v := fun j hj => by
      have hp : 0 < sz' := by
        rcases Nat.eq_zero_or_pos sz' with h | h
        · subst h; simp at hj
        · exact h
      have hd : j / sz' < rows.length := Nat.div_lt_of_lt_mul (by rw [Nat.mul_comm]; exact hj)
      have hrow := List.getElem?_eq_getElem hd
      obtain ⟨h1, h2⟩ := hsz _ _ hrow
      have hm : j % sz' < (rows[j / sz']).length := by rw [h1]; exact Nat.mod_lt _ hp
      have hc := List.getElem?_eq_getElem hm
      obtain ⟨v, hv, hr⟩ := hcell a0 _ _ _ _ rfl hrow hc
      have hj2 : j / sz' * sz' + j % sz' = j := by rw [Nat.mul_comm]; exact Nat.div_add_mod j sz'
      rw [hj2] at hv
      refine ⟨v, hv, ?_, fun row c h3 h4 => ?_⟩
      · have hone := List.all_eq_true.1 h2 _ (List.getElem_mem hm)
        have : AV.one (.c (rows[j / sz'][j % sz'])) = true := by
          cases hcv : rows[j / sz'][j % sz'] with
          | sc u => rw [hcv] at hone; exact hone
          | sl r => rfl
        exact (one_rel (C := C) this hr).2
      · rw [hrow] at h3; cases h3
        rw [hc] at h4; cases h4
        exact hr
    refine ⟨some a0, cap, (List.range (rows.length * sz')).map (fun j => if h : j < rows.length * sz' then (hdm j h).choose else undef), hx, fun _ => rfl, by simp, fun a j u ha hj => ?_, fun u hu => ?_, fun i j row c hi hj => ?_⟩
    · cases ha
      simp only [List.getElem?_map, Option.map_eq_some_iff] at hj
      obtain ⟨j', hj', rfl⟩ := hj
      have hlt : j < rows.length * sz' := by have := lt_of_get hj'; simpa using this
      rw [List.getElem?_range hlt] at hj'
      cases hj'
      simp only [dif_pos hlt]
      exact (hdm j hlt).choose_spec.1
    · simp only [List.mem_map, List.mem_range] at hu
      obtain ⟨j, hlt, rfl⟩ := hu
      simp only [dif_pos hlt]
      exact (hdm j hlt).choose_spec.2.1
    · have hjl : j < sz' := by rw [← hsz' i row hi]; exact lt_of_get hj
      have hil := lt_of_get hi
      have h3 : i * sz' + sz' ≤ rows.length * sz' := by rw [← Nat.succ_mul]; exact Nat.mul_le_mul_right _ hil
      have hlt : i * sz' + j < rows.length * sz' := by omega
      refine ⟨(hdm _ hlt).choose, by simp [hlt], (hdm _ hlt).choose_spec.2.2 row c ?_ ?_⟩
      · rw [Nat.mul_comm, Nat.mul_add_div (by omega), Nat.div_eq_of_lt hjl]; simpa using hi
      · rw [Nat.mul_comm, Nat.mul_add_mod, Nat.mod_eq_of_lt hjl]; exact hj

theorem owns_slice {w : World} {e : TypeId} {sz n : Nat} {v : Value} {xs : List Value} (h : w.ownsRow 0 e sz v n xs) : v.ownBlock = blockOf v ∧ ∃ ad cap, v = .slice ad n cap ∧ n ≤ cap ∧ (n ≠ 0 → ad.isSome = true) := by
  rcases h.2 with ⟨rfl, rfl⟩ | ⟨g, cap, cur, rfl, _, _, hnc, _⟩
  · exact ⟨rfl, none, 0, rfl, Nat.le_refl _, fun h => absurd rfl h⟩
  · exact ⟨rfl, _, cap, rfl, hnc, fun _ => rfl⟩

/-- A slice of the call's own that reads as the rows say. -/
theorem owns_rel {C : Cx} {e : TypeId} {sz : Nat} {v : Value} {rows : List (List CV)} {xs : List Value} (hown : C.w.ownsRow 0 e sz v rows.length xs) (hS : ∀ k, blockOf v = some k → C.S k = rows.length * sz)
    (hsz : ∀ (i : Nat) row, rows[i]? = some row → row.length = sz) (hcell : ∀ (i j : Nat) row c, rows[i]? = some row → row[j]? = some c → ∃ u, xs[i * sz + j]? = some u ∧ RelC C.rd c u) : RelC C.rd (.sl rows) v := by
  obtain ⟨_, ad, cap, rfl, hcap, hne⟩ := owns_slice hown
  refine RelC.mk hcap (fun h => hne (fun h0 => h (List.length_eq_zero_iff.1 h0))) hsz fun a i j row c ha hi hj => ?_
  obtain ⟨u, hu, hr⟩ := hcell i j row c hi hj
  refine ⟨u, ?_, hr⟩
  subst ha
  rcases hown.2 with ⟨h, _⟩ | ⟨g, cap', cur, h, _, hg, _, _, _, htake⟩
  · cases h
  · cases h
    have hil := lt_of_get hi
    have hjl : j < sz := by rw [← hsz i row hi]; exact lt_of_get hj
    have h3 : i * sz + sz ≤ rows.length * sz := by rw [← Nat.succ_mul]; exact Nat.mul_le_mul_right _ hil
    rw [addr_add_lit, Nat.zero_add]
    have hlt : i * sz + j < C.S g := by rw [hS g rfl]; omega
    simp only [Cx.rd, if_pos hlt]
    exact hown.cells (g := g) rfl (i * sz + j) u hu |> fun h => by rw [addr_add_lit, Nat.zero_add] at h; exact h

theorem grown_more {w w' : World} {row : Option Nat} (h : w.grownBy w' row) {k : Nat} (hk : k < w.heap.size) (hr : some k ≠ row) : w'.heap[k]? = w.heap[k]? := h.block k hk hr

/-- What append does to a slice of the call's own (b: its number). -/
theorem does_app (hH : HRel C) {o : Oper} {t e : TypeId} {i : TypeInfo} {z : Value} {x y : Operand} (ho : o.op = .call { callee := .builtin .append, args := #[x, y], argTypes := #[t, t] }) (hu : P.underlying t = some (.slice e)) (hi : P.info? e = some i) (hz : i.zero = some z)
    (hzs : z.cells.size = i.size) (h0 : 0 < i.size) {b : Nat} {rows new : List (List CV)} (hb : C.H[b]? = some (.grow i.size e rows)) (hx : a.eval x = C.β b) (hy : Reads C new (a.eval y))
    (hnew : ∀ (j : Nat) row, new[j]? = some row → row.length = i.size ∧ row.all CV.one = true) (hbytes : (rows.length + new.length) * i.bytes ≤ 140737488355328) (hmax : rows.length + new.length ≤ 9223372036854775807)
    {s' : St} (hs' : s'.B ++ s'.L = C.H.set b (.grow i.size e (rows ++ new))) : Does P C a o s' (.gs b (rows.length + new.length)) := by
  obtain ⟨xs, _, hown, hS, hsz, hcell⟩ := hH.ent b _ hb
  obtain ⟨ad, cap, news, hyv, hne, hnl, hnc, hn1, hnr⟩ := reads_vals hy hnew
  obtain ⟨v', w', hrun, hown', hgr, hblk, hzero, hfrz⟩ := run_append2 (P := P) C.w t o.type e i z hu hi hz hzs h0 (C.β b) rows.length xs hown ad new.length cap hne news hnl hnc hn1 (by simp only [maxLen]; omega) hbytes
  have hob := (owns_slice hown).1
  have hob' := (owns_slice hown').1
  rw [hob] at hgr hblk
  rw [hob'] at hblk
  -- which blocks stay as they were
  have hkeep : ∀ k, k < C.w.heap.size → blockOf (C.β b) ≠ some k → w'.heap[k]? = C.w.heap[k]? := fun k hk hne => hgr.block k hk (Ne.symm hne)
  let C' : Cx := { w := w', S := fun k => if blockOf v' = some k then (rows.length + new.length) * i.size else C.S k, β := fun b2 => if b2 = b then v' else C.β b2, H := C.H.set b (.grow i.size e (rows ++ new)) }
  have hHset : ∀ b2 e2, C'.H[b2]? = some e2 → (b2 = b ∧ e2 = .grow i.size e (rows ++ new)) ∨ (b2 ≠ b ∧ C.H[b2]? = some e2) := fun b2 e2 h => by
    by_cases hbb : b2 = b
    · subst hbb
      have h' : (C.H.set b2 (.grow i.size e (rows ++ new)))[b2]? = some e2 := h
      rw [List.getElem?_set_self (lt_of_get hb)] at h'
      exact .inl ⟨rfl, (Option.some.inj h').symm⟩
    · have h' : (C.H.set b (.grow i.size e (rows ++ new)))[b2]? = some e2 := h
      rw [List.getElem?_set_ne (Ne.symm hbb)] at h'
      exact .inr ⟨hbb, h'⟩
  have hβo : ∀ b2, b2 ≠ b → C'.β b2 = C.β b2 := fun b2 h => if_neg h
  have hβb : C'.β b = v' := if_pos rfl
  have hv'lt : ∀ k, blockOf v' = some k → k < w'.heap.size := fun k hk => by
    rcases hown'.2 with ⟨h1, _⟩ | ⟨g, cap', cur, h1, _, hg, _⟩
    · rw [h1] at hk; simp [blockOf] at hk
    · rw [h1] at hk; simp only [blockOf, Option.some.injEq] at hk; subst hk; exact cell_lt hg
  -- the cells of the old row, and of the new one
  have hold : ∀ (ad : Addr) (v : Value), C.w.cell? ad = some v → blockOf (C.β b) = some ad.block → ad.off < rows.length * i.size → xs[ad.off]? = some v ∧ ad.spot = none := fun ad v hc hk hlt => by
    rcases hown.2 with ⟨h1, _⟩ | ⟨g, cap', cur, h1, _, hg, _, _, hcs, htake⟩
    · rw [h1] at hk; simp [blockOf] at hk
    · rw [h1] at hk
      simp only [blockOf, Option.some.injEq] at hk
      subst hk
      unfold World.cell? at hc
      rw [hg] at hc
      simp only at hc
      split at hc
      · cases hc
      · rename_i hs
        refine ⟨?_, by cases hsp : ad.spot <;> simp_all⟩
        rw [← htake, List.getElem?_take_of_lt hlt]
        simpa using hc
  have hnewc : ∀ (ad : Addr) (v : Value), blockOf v' = some ad.block → ad.spot = none → (xs ++ news)[ad.off]? = some v → w'.cell? ad = some v := fun ad v hk hsp hv => by
    rcases hown'.2 with ⟨h1, _⟩ | ⟨g, cap', cur, h1, _, hg, _, _, hcs, htake⟩
    · rw [h1] at hk; simp [blockOf] at hk
    · rw [h1] at hk
      simp only [blockOf, Option.some.injEq] at hk
      subst hk
      rw [← htake, List.getElem?_take] at hv
      split at hv
      · simp only [World.cell?, hg, hsp]
        simpa using hv
      · cases hv
  have hn : Nxt C C' := {
    os := hgr.os
    tape := hgr.tape
    output := hgr.output
    size := hgr.size
    rd := fun ad v h => by
      have hlt := Cx.rd_lt h
      have hc := Cx.rd_cell h
      have hbl := World.block_lt_of_cell? C.w ad hc
      show (if ad.off < (if blockOf v' = some ad.block then (rows.length + new.length) * i.size else C.S ad.block) then w'.cell? ad else none) = some v
      by_cases hk' : blockOf v' = some ad.block
      · have hk : blockOf (C.β b) = some ad.block := by
          rcases hblk with h1 | ⟨h1, _⟩
          · rw [← h1]; exact hk'
          · rw [h1] at hk'; simp only [Option.some.injEq] at hk'; omega
        rw [hS _ hk] at hlt
        obtain ⟨hin, hsp⟩ := hold ad v hc hk hlt
        rw [if_pos hk', if_pos (by rw [Nat.add_mul]; omega)]
        exact hnewc ad v hk' hsp (by rw [List.getElem?_append_left (lt_of_get hin)]; exact hin)
      · rw [if_neg hk', if_pos hlt]
        have hsame : w'.heap[ad.block]? = C.w.heap[ad.block]? := by
          rcases hblk with h1 | ⟨_, h1⟩
          · exact hkeep _ hbl (by rw [← h1]; exact hk')
          · exact h1 _ hbl
        unfold World.cell? at hc ⊢
        rw [hsame]; exact hc
    len := by show _ ≤ (C.H.set b _).length; simp
    mem := fun b2 sz2 rows2 h _ => by
      rcases hHset b2 _ h with ⟨rfl, hh⟩ | ⟨hne, hh⟩
      · cases hh
      · exact ⟨rows2, hh, rfl, hβo b2 hne⟩
    grow := fun b2 sz2 e2 rows2 h _ => by
      rcases hHset b2 _ h with ⟨rfl, hh⟩ | ⟨hne, hh⟩
      · cases hh
        refine ⟨rows, new, hb, rfl, fun h0 => ?_⟩
        rw [hβb]
        exact (hzero (by rw [h0]; rfl)).1
      · exact ⟨rows2, [], hh, by simp, fun _ => hβo b2 hne⟩
    frame := fun k hk hno => by
      have h1 := hno b _ hb
      refine ⟨hkeep k hk h1, ?_⟩
      show (if blockOf v' = some k then _ else C.S k) = C.S k
      rw [if_neg]
      intro h2
      rcases hblk with h3 | ⟨h3, _⟩
      · exact h1 (h3 ▸ h2)
      · rw [h3] at h2; simp only [Option.some.injEq] at h2; omega
    frz := hfrz
    own := fun b2 e2 k h hk => by
      rcases hHset b2 _ h with ⟨rfl, hh⟩ | ⟨hne, hh⟩
      · rw [hβb] at hk
        rcases hblk with h3 | ⟨h3, _⟩
        · exact .inr ⟨_, hb, h3 ▸ hk⟩
        · rw [h3] at hk; simp only [Option.some.injEq] at hk; exact .inl (by omega)
      · rw [hβo b2 hne] at hk
        exact .inr ⟨e2, hh, hk⟩ }
  have hcells : ∀ (i2 j : Nat) row c, (rows ++ new)[i2]? = some row → row[j]? = some c → ∃ v, (xs ++ news)[i2 * i.size + j]? = some v ∧ RelC C'.rd c v := fun i2 j row c hi2 hj => by
    by_cases hlt : i2 < rows.length
    · rw [List.getElem?_append_left hlt] at hi2
      obtain ⟨v, hv, hr⟩ := hcell i2 j row c hi2 hj
      exact ⟨v, by rw [List.getElem?_append_left (lt_of_get hv)]; exact hv, RelC.mono hn.rd hr⟩
    · rw [List.getElem?_append_right (by omega)] at hi2
      obtain ⟨v, hv, hr⟩ := hnr _ j row c hi2 hj
      refine ⟨v, ?_, RelC.mono hn.rd hr⟩
      have h1 : i2 * i.size + j = rows.length * i.size + ((i2 - rows.length) * i.size + j) := by
        have h2 : rows.length * i.size + (i2 - rows.length) * i.size = i2 * i.size := by rw [← Nat.add_mul]; congr 1; omega
        omega
      rw [h1, ← hown.1, List.getElem?_append_right (by omega), Nat.add_sub_cancel_left]
      exact hv
  have hszs : ∀ (i2 : Nat) row, (rows ++ new)[i2]? = some row → row.length = i.size := fun i2 row hi2 => by
    by_cases hlt : i2 < rows.length
    · rw [List.getElem?_append_left hlt] at hi2; exact hsz _ _ hi2
    · rw [List.getElem?_append_right (by omega)] at hi2; exact (hnew _ _ hi2).1
  have hS' : ∀ k, blockOf v' = some k → C'.S k = (rows ++ new).length * i.size := fun k hk => by
    show (if blockOf v' = some k then (rows.length + new.length) * i.size else C.S k) = _
    rw [if_pos hk, List.length_append]
  have hown2 : C'.w.ownsRow 0 e i.size v' (rows ++ new).length (xs ++ news) := by rw [List.length_append]; exact hown'
  have hent : EntOk C' b (.grow i.size e (rows ++ new)) := ⟨xs ++ news, h0, by rw [hβb]; exact hown2, by rw [hβb]; exact hS', hszs, hcells⟩
  have hH' : HRel C' := by
    have hsep : ∀ b2 e2 k, b2 ≠ b → C.H[b2]? = some e2 → blockOf (C.β b2) = some k → blockOf (C.β b) ≠ some k ∧ blockOf v' ≠ some k := fun b2 e2 k hne hb2 hk => by
      have h1 := hH.inj b2 b e2 _ k hne hb2 hb hk
      refine ⟨h1, fun h2 => ?_⟩
      have h4 := (hH.ent b2 e2 hb2).block hk
      rcases hblk with h3 | ⟨h3, _⟩
      · exact h1 (h3 ▸ h2)
      · rw [h3] at h2; simp only [Option.some.injEq] at h2; omega
    refine ⟨fun b2 e2 h => ?_, fun b2 b3 e2 e3 k hne h h' hk => ?_⟩
    · rcases hHset b2 _ h with ⟨rfl, rfl⟩ | ⟨hne, hh⟩
      · exact hent
      · refine (hH.ent b2 e2 hh).keep hn (hβo b2 hne) fun k hk => ?_
        obtain ⟨h1, h2⟩ := hsep b2 e2 k hne hh hk
        exact ⟨hkeep k ((hH.ent b2 e2 hh).block hk) h1, if_neg h2⟩
    · rcases hHset b2 _ h with ⟨rfl, _⟩ | ⟨hne2, hh⟩
      · rcases hHset b3 _ h' with ⟨rfl, _⟩ | ⟨hne3, hh'⟩
        · exact absurd rfl hne
        · rw [hβo b3 hne3]
          rw [hβb] at hk
          exact fun hk3 => (hsep b3 e3 k hne3 hh' hk3).2 hk
      · rw [hβo b2 hne2] at hk
        rcases hHset b3 _ h' with ⟨rfl, _⟩ | ⟨hne3, hh'⟩
        · rw [hβb]; exact (hsep b2 e2 k hne2 hh hk).2
        · rw [hβo b3 hne3]; exact hH.inj b2 b3 e2 e3 k hne hh hh' hk
  have hb' : C'.H[b]? = some (.grow i.size e (rows ++ new)) := by
    show (C.H.set b _)[b]? = _
    rw [List.getElem?_set_self (lt_of_get hb)]
  refine ⟨C', v', .inl ?_, hn, hH', hs'.symm, i.size, e, rows ++ new, hb', by simp, ?_, fun _ => hβb.symm⟩
  · simp only [execOp, ho, resolve, invoke, builtin, List.map_toArray, List.map_cons, List.map_nil, hx, hyv]
    simp only [Sem.run_bind, Sem.run_pure, Result.andThen]
    rw [hrun]
  · rw [List.take_of_length_le (by simp)]
    exact owns_rel hown2 hS' hszs hcells

/-- append to nil. -/
theorem does_app_nil (hH : HRel C) {s : St} (hs : C.H = s.B ++ s.L) {o : Oper} {t e : TypeId} {i : TypeInfo} {z : Value} {x y : Operand} (ho : o.op = .call { callee := .builtin .append, args := #[x, y], argTypes := #[t, t] }) (hu : P.underlying t = some (.slice e)) (hi : P.info? e = some i) (hz : i.zero = some z)
    (hzs : z.cells.size = i.size) (h0 : 0 < i.size) {new : List (List CV)} (hx : a.eval x = .slice none 0 0) (hy : Reads C new (a.eval y))
    (hnew : ∀ (j : Nat) row, new[j]? = some row → row.length = i.size ∧ row.all CV.one = true) (hbytes : new.length * i.bytes ≤ 140737488355328) (hmax : new.length ≤ 9223372036854775807) :
    Does P C a o { s with L := s.L ++ [.grow i.size e new] } (.gs (lid s.B.length s.L.length) new.length) := by
  -- a number for the nil slice first
  let C0 : Cx := { C with β := fun b => if b = C.H.length then .slice none 0 0 else C.β b, H := C.H ++ [.grow i.size e []] }
  have hold : ∀ b e2, C0.H[b]? = some e2 → (b = C.H.length ∧ e2 = .grow i.size e []) ∨ (b ≠ C.H.length ∧ C.H[b]? = some e2) := fun b e2 h => by
    have h' : (C.H ++ [.grow i.size e []])[b]? = some e2 := h
    have := lt_of_get h'
    simp at this
    by_cases hb : b = C.H.length
    · subst hb
      simp at h'
      exact .inl ⟨rfl, h'.symm⟩
    · rw [List.getElem?_append_left (by omega)] at h'
      exact .inr ⟨hb, h'⟩
  have hβ : ∀ b, b ≠ C.H.length → C0.β b = C.β b := fun b h => if_neg h
  have hβn : C0.β C.H.length = .slice none 0 0 := if_pos rfl
  have hrd : C0.rd = C.rd := rfl
  have hn : Nxt C C0 := {
    os := rfl
    tape := rfl
    output := rfl
    size := Nat.le_refl _
    rd := fun _ _ h => h
    len := by show _ ≤ (C.H ++ _).length; simp
    mem := fun b sz2 rows2 h hlt => by
      rcases hold b _ h with ⟨rfl, _⟩ | ⟨hne, hh⟩
      · omega
      · exact ⟨rows2, hh, rfl, hβ b hne⟩
    grow := fun b sz2 e2 rows2 h hlt => by
      rcases hold b _ h with ⟨rfl, _⟩ | ⟨hne, hh⟩
      · omega
      · exact ⟨rows2, [], hh, by simp, fun _ => hβ b hne⟩
    frame := fun _ _ _ => ⟨rfl, rfl⟩
    frz := fun _ => rfl
    own := fun b e2 k h hk => by
      rcases hold b _ h with ⟨rfl, _⟩ | ⟨hne, hh⟩
      · rw [hβn] at hk; simp [blockOf] at hk
      · rw [hβ b hne] at hk; exact .inr ⟨e2, hh, hk⟩ }
  have hH0 : HRel C0 := by
    refine ⟨fun b e2 h => ?_, fun b b' e2 e3 k hne h h' hk hk' => ?_⟩
    · rcases hold b _ h with ⟨rfl, rfl⟩ | ⟨hne, hh⟩
      · exact ⟨[], h0, ⟨by simp, .inl ⟨hβn, rfl⟩⟩, fun k hk => by rw [hβn] at hk; simp [blockOf] at hk, fun i row h => by simp at h, fun i j row c h => by simp at h⟩
      · exact (hH.ent b e2 hh).keep hn (hβ b hne) fun k _ => ⟨rfl, rfl⟩
    · rcases hold b _ h with ⟨rfl, _⟩ | ⟨hne1, hh⟩
      · rw [hβn] at hk; simp [blockOf] at hk
      · rcases hold b' _ h' with ⟨rfl, _⟩ | ⟨hne2, hh'⟩
        · rw [hβn] at hk'; simp [blockOf] at hk'
        · rw [hβ b hne1] at hk; rw [hβ b' hne2] at hk'
          exact hH.inj b b' e2 e3 k hne hh hh' hk hk'
  have hlen : lid s.B.length s.L.length = C.H.length := by rw [lid_eq, hs]; simp
  have hb0 : C0.H[C.H.length]? = some (.grow i.size e []) := by
    show (C.H ++ [.grow i.size e []])[C.H.length]? = _
    simp
  obtain ⟨C', v, hrun, hn', hH', hHH, hrel⟩ := does_app (P := P) (C := C0) (a := a) (b := C.H.length) (rows := []) (new := new) (s' := { s with L := s.L ++ [.grow i.size e new] }) hH0 ho hu hi hz hzs h0 hb0 (by rw [hx, hβn]) hy hnew (by simpa using hbytes) (by simpa using hmax) (by
    show s.B ++ (s.L ++ [.grow i.size e new]) = (C.H ++ [Ent.grow i.size e []]).set C.H.length (Ent.grow i.size e ([] ++ new))
    rw [hs, List.set_append_right _ _ (Nat.le_refl _)]
    simp)
  refine ⟨C', v, hrun, hn.trans hn', hH', hHH, ?_⟩
  rw [hlen]
  simpa using hrel
end
end Go.Den
namespace Go.Den
section
variable {P : Program} {C : Cx} {a : Act} {own : Nat}

theorem rowsOf_look {s : St} (hs : C.H = s.B ++ s.L) (b : Nat) : s.look b = C.H[b]? := by unfold St.look; rw [hs]

theorem set_app {s : St} {b : Nat} {e : Ent} {H : List Ent} (hs : H = s.B ++ s.L) (hb : b < H.length) : (if b < s.B.length then { s with B := s.B.set b e } else { s with L := s.L.set (b - s.B.length) e } : St).B ++
    (if b < s.B.length then { s with B := s.B.set b e } else { s with L := s.L.set (b - s.B.length) e } : St).L = H.set b e := by
  subst hs
  by_cases h : b < s.B.length
  · simp only [h, if_true]; rw [List.set_append_left _ _ h]
  · simp only [h, if_false]; rw [List.set_append_right _ _ (by omega)]

theorem rel_reads_of (hH : HRel C) {s : St} (hs : C.H = s.B ++ s.L) {ev : AV} {x : Value} (hx : Rel C ev x) {rows : List (List CV)} (h : rowsOf s.look ev = some rows) : Reads C rows x :=
  reads_rowsOf hH (rowsOf_look hs) hx h

theorem aEff_does (hH : HRel C) {s : St} (hs : C.H = s.B ++ s.L) {o : Oper} {mop : MOp} (hc : cOp P own o = some mop) (hev : ∀ x y, cOpd x = some y → y ∈ opds mop → Rel C (strip (s.ev y)).2 (a.eval x))
    {pre : Prop} {s' : St} {av : AV} (hp : aEff mop s = some (pre, s', av)) (hpre : pre) : Does P C a o s' av := by
  have hlk := rowsOf_look hs
  unfold cOp at hc
  split at hc
  · simp only [Option.map_eq_some_iff] at hc
    obtain ⟨_, _, rfl⟩ := hc
    simp [aEff] at hp
  · simp only [Option.map_eq_some_iff] at hc
    obtain ⟨_, _, rfl⟩ := hc
    simp [aEff] at hp
  · simp only [Option.bind_eq_bind, Option.bind_eq_some_iff, Option.some.injEq] at hc
    obtain ⟨_, _, _, _, _, _, rfl⟩ := hc
    simp [aEff] at hp
  · -- alloc
    rename_i e ho
    simp only [Option.bind_eq_bind, Option.bind_eq_some_iff, Option.some.injEq] at hc
    obtain ⟨i, hi, z, hz, rfl⟩ := hc
    simp only [aEff, Option.some.injEq, Prod.mk.injEq] at hp
    obtain ⟨e1, rfl, rfl⟩ := hp
    exact does_alloc hH hs ho hi hz
  · -- box
    rename_i t x ho
    simp only [Option.map_eq_some_iff] at hc
    obtain ⟨y, hy, rfl⟩ := hc
    simp only [aEff, Option.some.injEq, Prod.mk.injEq] at hp
    obtain ⟨e1, rfl, rfl⟩ := hp
    rw [← e1] at hpre
    exact does_box hH hs ho (hev x y hy (by simp [opds])) hpre
  · -- build
    simp only [Option.bind_eq_bind, Option.bind_eq_some_iff] at hc
    obtain ⟨_, _, _, _, hc⟩ := hc
    split at hc
    · simp only [Option.bind_eq_some_iff, Option.some.injEq] at hc
      obtain ⟨_, _, _, _, rfl⟩ := hc
      simp [aEff] at hp
    · simp only [Option.bind_eq_some_iff, Option.some.injEq] at hc
      obtain ⟨_, _, _, _, rfl⟩ := hc
      simp [aEff] at hp
    · cases hc
  · -- buildSlice
    rename_i t n parts ho
    split at hc
    · rename_i e hu
      simp only [Option.bind_eq_bind, Option.bind_eq_some_iff] at hc
      obtain ⟨i, hi, z, hz, hc⟩ := hc
      split at hc
      · rename_i hcond
        simp only [Option.bind_eq_some_iff, Option.some.injEq] at hc
        obtain ⟨qs, hqs, rfl⟩ := hc
        have hev' : (∀ x y, cOpd x = some y → y ∈ qs.map (·.2.2) → Rel C (strip (s.ev y)).2 (a.eval x)) := fun x y h1 h2 => hev x y h1 (by
          unfold mkSlice
          split <;> simpa [opds] using h2)
        have hd := fun cs hf => does_bslice (P := P) (a := a) hH hs ho hu hi hz hcond.1 hcond.2.1 hcond.2.2 hqs (ev := fun y => (strip (s.ev y)).2) hev' (cs := cs) hf
        unfold mkSlice at hp
        split at hp
        · simp only [aEff, Option.bind_eq_some_iff, Bool.false_eq_true, if_false, Option.map_eq_some_iff, Prod.mk.injEq] at hp
          obtain ⟨cs, hf, rows, hr, e1, rfl, rfl⟩ := hp
          exact ((hd cs hf).2 rows hr).1
        · simp only [aEff, Option.bind_eq_some_iff, if_true, Option.some.injEq, Prod.mk.injEq] at hp
          obtain ⟨cs, hf, e1, rfl, rfl⟩ := hp
          exact (hd cs hf).1
        · simp only [aEff, Option.bind_eq_some_iff, Option.map_eq_some_iff, Prod.mk.injEq] at hp
          obtain ⟨cs, hf, rows, hr, e1, rfl, rfl⟩ := hp
          exact ((hd cs hf).2 rows hr).2
      · cases hc
    · cases hc
  · -- load
    simp only [Option.bind_eq_bind, Option.bind_eq_some_iff] at hc
    obtain ⟨_, _, hc⟩ := hc
    split at hc
    · simp only [Option.map_eq_some_iff] at hc
      obtain ⟨_, _, rfl⟩ := hc
      simp [aEff] at hp
    · simp only [Option.map_eq_some_iff] at hc
      obtain ⟨_, _, rfl⟩ := hc
      simp [aEff] at hp
    · simp only [Option.map_eq_some_iff] at hc
      obtain ⟨_, _, rfl⟩ := hc
      simp [aEff] at hp
    · cases hc
  · -- store
    rename_i t x y ho
    simp only [Option.bind_eq_bind, Option.bind_eq_some_iff, Option.some.injEq] at hc
    obtain ⟨i, hi, x', hx', y', hy', rfl⟩ := hc
    have hx := hev x x' hx' (by simp [opds])
    have hy := hev y y' hy' (by simp [opds])
    simp only [aEff] at hp
    split at hp
    · rename_i b r off he
      rw [he] at hx
      rw [hlk] at hp
      split at hp
      · rename_i sz rows hb
        have hset := set_app (s := s) (b := b) (e := Ent.mem sz (rows.set r ((rows.getD r []).take off ++ (strip (s.ev y')).2.cells ++ (rows.getD r []).drop (off + i.size)))) hs (lt_of_get hb)
        split at hp
        · rename_i hlt
          simp only [Option.some.injEq, Prod.mk.injEq] at hp
          obtain ⟨e1, rfl, rfl⟩ := hp
          rw [← e1] at hpre
          simp only [hlt, if_true] at hset
          exact does_st hH hs ho hi hb hx hy hpre.1 hpre.2.1 hpre.2.2.1 hpre.2.2.2 hset
        · rename_i hlt
          simp only [Option.some.injEq, Prod.mk.injEq] at hp
          obtain ⟨e1, rfl, rfl⟩ := hp
          rw [← e1] at hpre
          simp only [hlt, if_false] at hset
          exact does_st hH hs ho hi hb hx hy hpre.1 hpre.2.1 hpre.2.2.1 hpre.2.2.2 hset
      · cases hp
    · cases hp
  · simp only [Option.map_eq_some_iff] at hc
    obtain ⟨_, _, rfl⟩ := hc
    simp [aEff] at hp
  · -- binOp
    split at hc <;> (try split at hc) <;> (try (cases hc; done)) <;>
      (simp only [Option.bind_eq_bind, Option.bind_eq_some_iff, Option.some.injEq] at hc
       first
         | (obtain ⟨_, _, _, _, rfl⟩ := hc; simp [aEff] at hp)
         | (obtain ⟨_, _, _, _, _, _, rfl⟩ := hc; simp [aEff] at hp))
  · simp only [Option.map_eq_some_iff] at hc
    obtain ⟨_, _, rfl⟩ := hc
    simp [aEff] at hp
  · -- convert
    split at hc
    · simp only [Option.map_eq_some_iff] at hc
      obtain ⟨_, _, rfl⟩ := hc
      simp [aEff] at hp
    · split at hc
      · simp only [Option.map_eq_some_iff] at hc
        obtain ⟨_, _, rfl⟩ := hc
        simp [aEff] at hp
      · cases hc
    · cases hc
  · -- makeFunc
    split at hc
    · simp only [Option.map_eq_some_iff] at hc
      obtain ⟨_, _, rfl⟩ := hc
      simp [aEff] at hp
    · cases hc
  · -- makeSlice
    rename_i t l c ho
    split at hc
    · rename_i e hu
      simp only [Option.bind_eq_bind, Option.bind_eq_some_iff] at hc
      obtain ⟨i, hi, z, hz, hc⟩ := hc
      split at hc
      · rename_i hcond
        simp only [Option.bind_eq_some_iff, Option.some.injEq] at hc
        obtain ⟨l', hl', c', hc', rfl⟩ := hc
        have hl := hev l l' hl' (by simp [opds])
        have hc := hev c c' hc' (by simp [opds])
        simp only [aEff] at hp
        split at hp
        · rename_i k n k' m e1 e2
          rw [e1] at hl; rw [e2] at hc
          simp only [Option.some.injEq, Prod.mk.injEq] at hp
          obtain ⟨e3, rfl, rfl⟩ := hp
          rw [← e3] at hpre
          obtain ⟨rfl, h0, h1, h2, _⟩ := hpre
          exact does_msl hH hs ho hu hi hz hcond.1 hcond.2 hl.scv hc.scv h0 h1 h2
        · cases hp
      · cases hc
    · cases hc
  · -- slice
    split at hc
    · simp only [Option.bind_eq_bind, Option.bind_eq_some_iff, Option.some.injEq] at hc
      obtain ⟨_, _, _, _, _, _, _, _, _, _, rfl⟩ := hc
      simp [aEff] at hp
    · split at hc
      · simp only [Option.bind_eq_bind, Option.bind_eq_some_iff, Option.some.injEq] at hc
        obtain ⟨_, _, _, _, _, _, rfl⟩ := hc
        simp [aEff] at hp
      · cases hc
    · cases hc
  · -- fieldAddr
    split at hc
    · simp only [Option.bind_eq_bind, Option.bind_eq_some_iff] at hc
      obtain ⟨_, _, _, _, hc⟩ := hc
      split at hc
      · cases hc
      · simp only [Option.map_eq_some_iff] at hc
        obtain ⟨_, _, rfl⟩ := hc
        simp [aEff] at hp
    · cases hc
  · -- field
    split at hc
    · simp only [Option.bind_eq_bind, Option.bind_eq_some_iff] at hc
      obtain ⟨_, _, _, _, hc⟩ := hc
      split at hc
      · simp only [Option.map_eq_some_iff] at hc
        obtain ⟨_, _, rfl⟩ := hc
        simp [aEff] at hp
      · simp only [Option.map_eq_some_iff] at hc
        obtain ⟨_, _, rfl⟩ := hc
        simp [aEff] at hp
      · simp only [Option.map_eq_some_iff] at hc
        obtain ⟨_, _, rfl⟩ := hc
        simp [aEff] at hp
      · cases hc
    · cases hc
  · -- indexAddr
    split at hc
    · simp only [Option.bind_eq_bind, Option.bind_eq_some_iff, Option.some.injEq] at hc
      obtain ⟨_, _, _, _, _, _, rfl⟩ := hc
      simp [aEff] at hp
    · simp only [Option.bind_eq_bind, Option.bind_eq_some_iff] at hc
      obtain ⟨_, _, hc⟩ := hc
      split at hc
      · cases hc
      · simp only [Option.bind_eq_some_iff, Option.some.injEq] at hc
        obtain ⟨_, _, _, _, rfl⟩ := hc
        simp [aEff] at hp
    · cases hc
  · -- index
    split at hc
    · simp only [Option.bind_eq_bind, Option.bind_eq_some_iff, Option.some.injEq] at hc
      obtain ⟨_, _, _, _, rfl⟩ := hc
      simp [aEff] at hp
    · cases hc
  · simp only [Option.map_eq_some_iff] at hc
    obtain ⟨_, _, rfl⟩ := hc
    simp [aEff] at hp
  · -- call
    rename_i c ho
    obtain ⟨callee, args, argTypes⟩ := c
    split at hc
    · split at hc
      · split at hc
        · simp only [Option.map_eq_some_iff] at hc
          obtain ⟨_, _, rfl⟩ := hc
          simp [aEff] at hp
        · simp only [Option.map_eq_some_iff] at hc
          obtain ⟨_, _, rfl⟩ := hc
          simp [aEff] at hp
        · simp only [Option.some.injEq] at hc
          subst hc
          simp [aEff] at hp
        · cases hc
      · cases hc
    · rename_i hcal
      split at hc
      · rename_i t t' x y ht hxy
        split at hc
        · rename_i e hu
          simp only [Option.bind_eq_bind, Option.bind_eq_some_iff] at hc
          obtain ⟨i, hi, z, hz, hc⟩ := hc
          split at hc
          · rename_i hcond
            obtain ⟨rfl, hzs, h0⟩ := hcond
            simp only [Option.bind_eq_some_iff, Option.some.injEq] at hc
            obtain ⟨x', hx', y', hy', rfl⟩ := hc
            simp only at hcal ht hxy
            have e1 : args = #[x, y] := by apply Array.ext'; simpa using hxy
            have e2 : argTypes = #[t, t] := by apply Array.ext'; simpa using ht
            subst hcal; subst e1; subst e2
            have hx := hev x x' hx' (by simp [opds])
            have hy := hev y y' hy' (by simp [opds])
            simp only [aEff, Option.bind_eq_some_iff] at hp
            obtain ⟨new, hnew, hp⟩ := hp
            have hr := rel_reads_of hH hs hy hnew
            split at hp
            · rename_i he
              rw [he] at hx
              simp only [Option.some.injEq, Prod.mk.injEq] at hp
              obtain ⟨e3, rfl, rfl⟩ := hp
              rw [← e3] at hpre
              exact does_app_nil hH hs ho hu hi hz hzs h0 hx.scv hr hpre.1 hpre.2.1 hpre.2.2
            · rename_i b n he
              rw [he] at hx
              rw [hlk] at hp
              split at hp
              · rename_i sz' e' rows hb
                obtain ⟨h1, h2, h3⟩ := hx.gs_at hb
                have hset := set_app (s := s) (b := b) (e := Ent.grow i.size e (rows ++ new)) hs (lt_of_get hb)
                split at hp
                · rename_i hlt
                  simp only [Option.some.injEq, Prod.mk.injEq] at hp
                  obtain ⟨e3, rfl, rfl⟩ := hp
                  rw [← e3] at hpre
                  obtain ⟨rfl, rfl, rfl, h4, h5, h6⟩ := hpre
                  simp only [hlt, if_true] at hset
                  exact does_app hH ho hu hi hz hzs h0 hb (h3 rfl) hr h4 h5 h6 hset
                · rename_i hlt
                  simp only [Option.some.injEq, Prod.mk.injEq] at hp
                  obtain ⟨e3, rfl, rfl⟩ := hp
                  rw [← e3] at hpre
                  obtain ⟨rfl, rfl, rfl, h4, h5, h6⟩ := hpre
                  simp only [hlt, if_false] at hset
                  exact does_app hH ho hu hi hz hzs h0 hb (h3 rfl) hr h4 h5 h6 hset
              · cases hp
            · cases hp
          · cases hc
        · cases hc
      · cases hc
    · simp only [Option.bind_eq_bind, Option.bind_eq_some_iff, Option.some.injEq] at hc
      obtain ⟨_, _, _, _, rfl⟩ := hc
      simp [aEff] at hp
    · cases hc
  · cases hc
end
end Go.Den
namespace Go.Den

inductive AX where
  | nrm
  | exit (id : Nat)
  | ret
def AX.toExit : AX → Exit
  | .nrm => .normal
  | .exit id => .exit id
  | .ret => .ret

/-- A call: in whatever memory that is as told, it returns, and what it returns and leaves is as told. -/
def ACalls (P : Program) (f : FuncId) (args : List AV) (H : List Ent) (R : AV → List Ent → Prop) : Prop :=
  (∃ fn, P.funcs[f]? = some fn ∧ fn.body.isSome = true ∧ (fn.name == "runtime.NumGoroutine") = false) ∧
  ∀ (C : Cx) (vals : Array Value), HRel C → C.H = H → RelL C args vals.toList →
    Calls P f vals C.w fun e w' => ∃ v C' r, e = .returned v ∧ C'.w = w' ∧ Nxt C C' ∧ HRel C' ∧ Rel C' r v ∧ R r C'.H

theorem ACalls.mono {P : Program} {f : FuncId} {args : List AV} {H : List Ent} {R R' : AV → List Ent → Prop} (h : ACalls P f args H R) (hr : ∀ r H', R r H' → R' r H') : ACalls P f args H R' :=
  ⟨h.1, fun C vals h1 h2 h3 => (h.2 C vals h1 h2 h3).mono fun e w' ⟨v, C', r, a, b, c, d, x, y⟩ => ⟨v, C', r, a, b, c, d, x, hr _ _ y⟩⟩

/-- The function that is called, and its arguments. -/
def callee (s : St) (f : Opd) (args : List Opd) : Option (FuncId × List AV) :=
  match (strip (s.ev f)).2 with
  | .fn g caps => some (g, args.map (fun x => (strip (s.ev x)).2) ++ caps)
  | .c (.sc (.func (.func g) ⟨[]⟩ ⟨[]⟩)) => some (g, args.map fun x => (strip (s.ev x)).2)
  | _ => none

def aCallU (P : Program) (d : Option Nat) (f : Opd) (args : List Opd) (s : St) (K : St → Prop) : Prop :=
  ∃ F as, callee s f args = some (F, as) ∧ condsOf s (f :: args) ∧
    ACalls P F as (s.B ++ s.L) (fun r H' => ∃ B' L', H' = B' ++ L' ∧ B'.length = s.B.length ∧ K (St.put { s with B := B', L := L' } d r))
/-- A call that leaves the call's own memory alone and returns r. -/
def PCalls (P : Program) (F : FuncId) (as : List AV) (H : List Ent) (r : AV) : Prop := ACalls P F as H fun r' H' => r' = r ∧ H' = H
def aCallG (P : Program) (d : Option Nat) (gb : Bool) (f : Opd) (args : List Opd) (s : St) (K : St → Prop) : Prop :=
  ∃ r, (gb = true → ∃ F as, callee s f args = some (F, as) ∧ condsOf s (f :: args) ∧ PCalls P F as (s.B ++ s.L) r) ∧ K (s.put d (.when gb r))
def aCallI (P : Program) (d : Option Nat) (g : Option (Nat × Bool)) (f : Opd) (args : List Opd) (s : St) (K : St → Prop) : Prop :=
  match g with
  | none => aCallU P d f args s K
  | some g => ∃ gb, gval s (some g) = some gb ∧ aCallG P d gb f args s K

/-- One operation: carried out, or not, for its guard says no. -/
def oneOk (o : COp) (s s' : St) : Prop := (∃ p, runOne o s = some (p, s') ∧ p) ∨ (gval s o.g = some false ∧ s' = s.put o.dst (.when false (.c (.sc undef))))
def aSeg : List COp → St → (St → Prop) → Prop
  | [], s, K => K s
  | o :: r, s, K => ∃ s', oneOk o s s' ∧ aSeg r s' K

def aItems (P : Program) : List Item → St → (St → Prop) → Prop
  | [], s, K => K s
  | .chk _ :: r, s, K => aItems P r s K
  | .seg ops :: r, s, K => aSeg ops s fun s' => aItems P r s' K
  | .call d g f args :: r, s, K => aCallI P d g f args s fun s' => aItems P r s' K

/-- A value that is known to the last. -/
def rig : AV → Option Value
  | .c (.sc v) => some v
  | .tu [.c (.sc a), .c (.sc b)] => some (.tuple #[a, b])
  | .tu [.c (.sc a), .c (.sc b), .c (.sc c)] => some (.tuple #[a, b, c])
  | .ag [.c (.sc a), .c (.sc b)] => some (.agg #[a, b])
  | _ => none

mutual
/-- All own blocks that are named here have numbers below n. -/
def AV.und (n : Nat) : AV → Prop
  | .gs b _ | .op b _ _ | .os b _ _ => b < n
  | .ag cs => undL n cs
  | .tu vs => undL n vs
  | .fn _ caps => undL n caps
  | .when g v => g = true → AV.und n v
  | _ => True
def undL (n : Nat) : List AV → Prop
  | [] => True
  | a :: r => AV.und n a ∧ undL n r
end
def Ent.und (n : Nat) : Ent → Prop
  | .grow _ _ _ => True
  | .mem _ rows => ∀ row ∈ rows, undL n row

/-- y tells no more than x. -/
def Le (lk : Nat → Option Ent) (n : Nat) (x y : AV) : Prop := y = .any ∨ (x = y ∧ y.und n) ∨ (∃ rows, rowsOf lk x = some rows ∧ y = .c (.sl rows) ∧ ∀ b lo l, x ≠ .os b lo l)
def LeL (lk : Nat → Option Ent) (n : Nat) : List AV → List AV → Prop
  | [], [] => True
  | x :: xs, y :: ys => Le lk n x y ∧ LeL lk n xs ys
  | _, _ => False
/-- A state that tells no more: slots forgotten, the last own blocks let go. -/
structure Weak (s s' : St) : Prop where
  B : s'.B = s.B
  L : s'.L = s.L.take s'.L.length
  t : LeL s.look (s.B.length + s'.L.length) s.t s'.t
  e : ∀ e ∈ s'.B ++ s'.L, Ent.und (s.B.length + s'.L.length) e

/-- A block that tells no more: cells forgotten. -/
def LeE (e e' : Ent) : Prop := e' = e ∨ ∃ sz rows rows', e = .mem sz rows ∧ e' = .mem sz rows' ∧ rows'.length = rows.length ∧
  ∀ (i : Nat) row', rows'[i]? = some row' → ∃ row, rows[i]? = some row ∧ row'.length = row.length ∧ ∀ (j : Nat) a, row'[j]? = some a → a = .any ∨ row[j]? = some a
structure Weak2 (s s' : St) : Prop where
  t : s'.t = s.t
  B : s'.B = s.B
  len : s'.L.length = s.L.length
  L : ∀ (b : Nat) e e', s.L[b]? = some e → s'.L[b]? = some e' → LeE e e'
/-- The same state, or one that tells no more. -/
def WeakE (s s' : St) : Prop := s' = s ∨ ∃ m, Weak2 s m ∧ Weak m s'

/-- Do these slots lead to different blocks? -/
def chkB (s : St) (ps : List (Nat × Nat)) : Bool := ps.all fun p => match s.t.getD p.1 .any, s.t.getD p.2 .any with
  | .op b _ _, .op c _ _ => b != c
  | _, _ => false
def aItemsQ (P : Program) : List Item → St → (St → Prop) → Prop
  | [], s, K => K s
  | .chk ps :: r, s, K => chkB s ps = true ∧ aItemsQ P r s K
  | .seg ops :: r, s, K => (ops.all xOp) = true ∧ aSeg ops s fun s' => aItemsQ P r s' K
  | .call d g f args :: r, s, K => ∃ gb, gval s g = some gb ∧ ∃ x, (gb = true → ∃ F as, callee s f args = some (F, as) ∧ condsOf s (f :: args) ∧ PCalls P F as (s.B ++ s.L) x) ∧
      aItemsQ P r (s.put d (if g.isSome then .when gb x else x)) K

def awp (P : Program) : ACode → (AX → St → Prop) → St → Prop
  | .skip, Q, s => Q .nrm s
  | .reg draw items, Q, s => if draw then aItemsQ P items s (Q .nrm) else aItems P items s (Q .nrm)
  | .seq x y, Q, s => awp P x (fun e s' => match e with | .nrm => awp P y Q s' | e => Q e s') s
  | .cond c x y, Q, s => ∃ b, s.ev c = .c (.sc (.bool b)) ∧ (b = true → awp P x Q s) ∧ (b = false → awp P y Q s)
  | .block id x, Q, s => awp P x (fun e s' => match e with | .exit i => if i = id then Q .nrm s' else Q (.exit i) s' | e => Q e s') s
  | .loop x, Q, s => ∃ I : Nat → St → Prop, (∃ n s0, WeakE s s0 ∧ I n s0) ∧ ∀ n s, I n s → awp P x (fun e s' => match e with | .nrm => ∃ m s'', m < n ∧ WeakE s' s'' ∧ I m s'' | e => Q e s') s
  | .exit id, Q, s => Q (.exit id) s
  | .ret, Q, s => Q .ret s

section
variable {P : Program} {own : Nat}

structure StRel (C : Cx) (a : Act) (s : St) : Prop where
  h : C.H = s.B ++ s.L
  hh : HRel C
  t : RelL C s.t a.tmps.toList
  d : a.defers = []

theorem StRel.ev {C : Cx} {a : Act} {s : St} (h : StRel C a s) {x : Operand} {y : Opd} (hc : cOpd x = some y) : Rel C (s.ev y) (a.eval x) := by
  cases x with
  | tmp t =>
    simp only [cOpd, Option.some.injEq] at hc
    subst hc
    show Rel C (s.t.getD t .any) (a.tmps.getD t undef)
    rw [List.getD_eq_getElem?_getD]
    cases ht : s.t[t]? with
    | none => trivial
    | some av =>
      obtain ⟨v, hv, hr⟩ := h.t.get t av ht
      have : a.tmps.getD t undef = v := by
        rw [Array.getElem?_toList] at hv
        simp [Array.getD_eq_getD_getElem?, hv]
      rw [this]; exact hr
  | const v =>
    simp only [cOpd, Option.some.injEq] at hc
    subst hc
    exact Rel.sc v
  | func f =>
    simp only [cOpd, Option.some.injEq] at hc
    subst hc
    exact Rel.sc _
  | global g => simp [cOpd] at hc

theorem strip_rel {C : Cx} {x : AV} {v : Value} (h : Rel C x v) (hs : (strip x).1 = true) : Rel C (strip x).2 v := by
  cases x <;> first | exact h | exact h.1 hs

theorem conds_mem {s : St} : ∀ {l : List Opd}, condsOf s l → ∀ y ∈ l, (strip (s.ev y)).1 = true
  | [], _, y, hy => by cases hy
  | x :: r, h, y, hy => by
    cases hy with
    | head => exact h.1
    | tail _ hy => exact conds_mem h.2 y hy

theorem StRel.put {C : Cx} {a : Act} {s : St} (h : StRel C a s) {d : Option Nat} {av : AV} {v : Value} (hr : Rel C av v) : StRel C (a.put d v) (s.put d av) := by
  cases d with
  | none => exact h
  | some d =>
    refine ⟨h.h, h.hh, ?_, h.d⟩
    show RelL C (s.t.set d av) (a.tmps.setIfInBounds d v).toList
    rw [Array.toList_setIfInBounds]
    exact h.t.set hr d

theorem StRel.nxt {C C' : Cx} {a : Act} {s : St} (h : StRel C a s) (hn : Nxt C C') (hh : HRel C') {B L : List Ent} (hH : C'.H = B ++ L) : StRel C' a { s with B, L } := ⟨hH, hh, RelL.nxt hn h.t, h.d⟩

theorem gval_wanted {C : Cx} {a : Act} {s : St} (h : StRel C a s) {ops : Array Oper} {o : Oper} {g : Option (Nat × Bool)} {gb : Bool}
    (hg : cG ops o = some g) (hv : gval s g = some gb) : Region.wanted o (yielded ops a.tmps) = gb := by
  unfold cG at hg
  cases hgd : o.guard with
  | none =>
    simp only [hgd, Option.some.injEq] at hg
    subst hg
    simp only [gval, Option.some.injEq] at hv
    subst hv
    simp [Region.wanted, hgd]
  | some p =>
    obtain ⟨j, want⟩ := p
    simp only [hgd, Option.map_eq_some_iff] at hg
    obtain ⟨t, ht, rfl⟩ := hg
    simp only [gval] at hv
    have hval : ∀ av, s.t.getD t .any = av → av ≠ .any → ∃ v, a.tmps[t]? = some v ∧ Rel C av v := fun av hav hne => by
      rw [List.getD_eq_getElem?_getD] at hav
      cases hs : s.t[t]? with
      | none => rw [hs] at hav; exact absurd hav.symm hne
      | some x =>
        rw [hs] at hav
        have hx : x = av := hav
        obtain ⟨v, hv, hr⟩ := h.t.get t x hs
        exact ⟨v, by simpa using hv, hx ▸ hr⟩
    simp only [Region.wanted, hgd, yielded, ht, Option.bind_some]
    split at hv
    · rename_i b hav
      simp only [Option.some.injEq] at hv
      obtain ⟨v, hv', hr⟩ := hval _ hav (by simp)
      rw [hv', hr.scv]
      rw [← hv]
      simp
    · rename_i g b hav
      simp only [Option.some.injEq] at hv
      obtain ⟨v, hv', hr⟩ := hval _ hav (by simp)
      rw [hv']
      cases g
      · rw [hr.2 rfl]
        rw [← hv]
        simp [undef]
      · have := hr.1 rfl
        rw [this.scv, ← hv]
        simp
    · rename_i hav
      simp only [Option.some.injEq] at hv
      obtain ⟨v, hv', hr⟩ := hval _ hav (by simp)
      rw [hv', hr.2 rfl, ← hv]
      simp [undef]
    · cases hv

theorem aEff_t {mop : MOp} {s s1 : St} {pre : Prop} {av : AV} (h : aEff mop s = some (pre, s1, av)) : s1.t = s.t := by
  cases mop <;> simp only [aEff, reduceCtorEq] at h
  case alloc z => simp only [Option.some.injEq, Prod.mk.injEq] at h; rw [← h.2.1]
  case box x => simp only [Option.some.injEq, Prod.mk.injEq] at h; rw [← h.2.1]
  case gsl n sz e z ps =>
    simp only [Option.bind_eq_some_iff, Option.map_eq_some_iff, Prod.mk.injEq] at h
    obtain ⟨cs, _, _, _, _, h, _⟩ := h
    rw [← h]
  case bslice o n sz z ps =>
    simp only [Option.bind_eq_some_iff] at h
    obtain ⟨cs, _, h⟩ := h
    split at h
    · simp only [Option.some.injEq, Prod.mk.injEq] at h; rw [← h.2.1]
    · simp only [Option.map_eq_some_iff, Prod.mk.injEq] at h
      obtain ⟨_, _, _, h, _⟩ := h; rw [← h]
  case st n a v =>
    split at h
    · split at h
      · split at h
        · simp only [Option.some.injEq, Prod.mk.injEq] at h; rw [← h.2.1]
        · simp only [Option.some.injEq, Prod.mk.injEq] at h; rw [← h.2.1]
      · cases h
    · cases h
  case msl sz b z l c =>
    split at h
    · simp only [Option.some.injEq, Prod.mk.injEq] at h; rw [← h.2.1]
    · cases h
  case app sz b e x y =>
    simp only [Option.bind_eq_some_iff] at h
    obtain ⟨new, _, h⟩ := h
    split at h
    · simp only [Option.some.injEq, Prod.mk.injEq] at h; rw [← h.2.1]
    · split at h
      · split at h
        · simp only [Option.some.injEq, Prod.mk.injEq] at h; rw [← h.2.1]
        · simp only [Option.some.injEq, Prod.mk.injEq] at h; rw [← h.2.1]
      · cases h
    · cases h

theorem aPick_looks {C : Cx} {a : Act} {s : St} (h : StRel C a s) {o : Oper} {c x y : Operand} (ho : o.op = .pick c x y) {c' x' y' : Opd} (hc : cOpd c = some c') (hx : cOpd x = some x') (hy : cOpd y = some y') {p : Prop} {av : AV}
    (hp : aPick s c' x' y' = some (p, av)) (hpre : p) : Looks P C a o av := by
  simp only [aPick] at hp
  split at hp
  · rename_i gc u ga v gb z e1 e2 e3
    simp only [Option.some.injEq, Prod.mk.injEq] at hp
    obtain ⟨e4, rfl⟩ := hp
    rw [← e4] at hpre
    have rc := h.ev hc
    have rx := h.ev hx
    have ry := h.ev hy
    have sc : ∀ {q : AV} {g : Bool} {b : Bool} {val : Value}, strip q = (g, .c (.sc (.bool b))) → Rel C q val → g = true → val = .bool b := fun {q g b val} hs hr hg => by
      have := strip_rel hr (by rw [hs]; exact hg)
      rw [hs] at this
      exact this.scv
    have ec := sc e1 rc hpre.1
    refine .of (.bool (cond u v z)) (Rel.sc _) fun w' _ => ?_
    cases u
    · have := sc e3 ry (hpre.2.2 rfl)
      simp [execOp, ho, ec, asBool, this, pure]
    · have := sc e2 rx (hpre.2.1 rfl)
      simp [execOp, ho, ec, asBool, this, pure]
  · rename_i gc u ga v e1 e2 _
    simp only [Option.some.injEq, Prod.mk.injEq] at hp
    obtain ⟨e4, rfl⟩ := hp
    rw [← e4] at hpre
    have rc := h.ev hc
    have rx := h.ev hx
    have sc : ∀ {q : AV} {g : Bool} {b : Bool} {val : Value}, strip q = (g, .c (.sc (.bool b))) → Rel C q val → g = true → val = .bool b := fun {q g b val} hs hr hg => by
      have := strip_rel hr (by rw [hs]; exact hg)
      rw [hs] at this
      exact this.scv
    have ec := sc e1 rc hpre.1
    have ex := sc e2 rx hpre.2.2
    refine .of (.bool v) (Rel.sc _) fun w' _ => ?_
    rw [hpre.2.1] at ec
    simp [execOp, ho, ec, asBool, ex, pure]
  · rename_i gc u gb v e1 e2 _
    simp only [Option.some.injEq, Prod.mk.injEq] at hp
    obtain ⟨e4, rfl⟩ := hp
    rw [← e4] at hpre
    have rc := h.ev hc
    have ry := h.ev hy
    have sc : ∀ {q : AV} {g : Bool} {b : Bool} {val : Value}, strip q = (g, .c (.sc (.bool b))) → Rel C q val → g = true → val = .bool b := fun {q g b val} hs hr hg => by
      have := strip_rel hr (by rw [hs]; exact hg)
      rw [hs] at this
      exact this.scv
    have ec := sc e1 rc hpre.1
    have ex := sc e2 ry hpre.2.2
    refine .of (.bool v) (Rel.sc _) fun w' _ => ?_
    rw [hpre.2.1] at ec
    simp [execOp, ho, ec, asBool, ex, pure]
  · cases hp

theorem mkSlice_pick {own n sz : Nat} {e : TypeId} {z : List Value} {ps : List (Nat × Nat × Opd)} {x y w : Opd} : (mkSlice own n sz e z ps = .pick x y w) = False := by
  unfold mkSlice; split <;> simp
theorem mkSlice_call {own n sz : Nat} {e : TypeId} {z : List Value} {ps : List (Nat × Nat × Opd)} {x : Opd} {l : List Opd} : (mkSlice own n sz e z ps = .call x l) = False := by
  unfold mkSlice; split <;> simp
/-- An operation that looks: what it comes to. -/
theorem look_one {C : Cx} {a : Act} {s : St} (h : StRel C a s) {o : Oper} {mop : MOp} (hm : cOp P own o = some mop) {r : Prop × AV}
    (hr : lookOf mop s = some r) (hp : r.1) : Looks P C a o r.2 := by
  have pure : (aPure mop (fun x => (strip (s.ev x)).2) s.look).map (fun (r : Prop × AV) => (condsOf s (opds mop) ∧ r.1, r.2)) = some r → Looks P C a o r.2 := fun hr => by
    simp only [Option.map_eq_some_iff] at hr
    obtain ⟨⟨pre, av⟩, hA, rfl⟩ := hr
    exact aPure_looks (own := own) h.hh hm (rowsOf_look h.h) (fun x y hxy hy => strip_rel (h.ev hxy) (conds_mem hp.1 y hy)) hA hp.2
  cases mop <;> try exact pure hr
  rename_i c' x' y'
  obtain ⟨c, x, y, ho, hc, hx, hy⟩ : ∃ c x y, o.op = .pick c x y ∧ cOpd c = some c' ∧ cOpd x = some x' ∧ cOpd y = some y' := by
    unfold cOp at hm
    split at hm
    case h_3 c x y ho =>
      simp only [Option.bind_eq_bind, Option.bind_eq_some_iff, Option.some.injEq, MOp.pick.injEq] at hm
      obtain ⟨_, h1, _, h2, _, h3, rfl, rfl, rfl⟩ := hm
      exact ⟨c, x, y, ho, h1, h2, h3⟩
    all_goals exfalso
    all_goals (repeat' split at hm) <;> simp [Option.bind_eq_some_iff, mkSlice_pick, mkSlice_call] at hm <;> (obtain ⟨_, _, _, _, hm⟩ := hm; split at hm <;> simp [mkSlice_pick, mkSlice_call] at hm)
  exact aPick_looks h ho hc hx hy hr hp

theorem bslice_same {n sz : Nat} {z : List Value} {ps : List (Nat × Nat × Opd)} {s s1 : St} {p : Prop} {av : AV} (h : aEff (.bslice false n sz z ps) s = some (p, s1, av)) : s1 = s := by
  simp only [aEff, Option.bind_eq_some_iff, Bool.false_eq_true, if_false, Option.map_eq_some_iff, Prod.mk.injEq] at h
  obtain ⟨_, _, _, _, _, rfl, _⟩ := h
  rfl
theorem still_eff {op : MOp} (h : stillOp op = true) (he : isEff op = true) : ∃ n sz z ps, op = .bslice false n sz z ps := by
  cases op <;> simp only [stillOp, isEff, Bool.not_true, Bool.not_eq_true', reduceCtorEq, Bool.false_eq_true] at h he
  case bslice ow n sz z ps =>
    subst h
    exact ⟨n, sz, z, ps, rfl⟩
theorem runOne_sound {C : Cx} {a : Act} {s : St} (h : StRel C a s) {ops : Array Oper} {o : Oper} {c : COp} (hc : cOper P own ops o = some c) {p : Prop} {s' : St} (hr : runOne c s = some (p, s')) (hp : p) {Q : Exit → Act → World → Prop} {next : Act → World → Prop}
    (hK : ∀ C' a', Nxt C C' → StRel C' a' s' → next a' C'.w) : if Region.wanted o (yielded ops a.tmps) then o.wp P a C.w next Q else next (a.put o.dst undef) C.w := by
  simp only [cOper, Option.bind_eq_some_iff, Option.map_eq_some_iff] at hc
  obtain ⟨mop, hm, g, hg, rfl⟩ := hc
  simp only [runOne] at hr
  cases hgv : gval s g with
  | none => rw [hgv] at hr; cases hr
  | some gb =>
    rw [hgv] at hr
    simp only at hr
    rw [gval_wanted h hg hgv]
    by_cases he : isEff mop = true
    · rw [if_pos he] at hr
      cases g with
      | some g =>
        simp only at hr
        split at hr
        · rename_i hst
          obtain ⟨n, sz, z, ps, rfl⟩ := still_eff hst he
          simp only [Option.map_eq_some_iff, Prod.mk.injEq] at hr
          obtain ⟨⟨pre, s1, av⟩, hE, e1, rfl⟩ := hr
          have := bslice_same hE
          subst this
          rw [← e1] at hp
          cases gb
          · simp only [Bool.false_eq_true, if_false]
            exact hK C _ (Nxt.refl C) (h.put (av := .when false av) ⟨(fun h => by cases h), fun _ => rfl⟩)
          · simp only [if_true]
            obtain ⟨hp1, hp2⟩ := hp rfl
            obtain ⟨C', v, hrun, hn, hh, hH, hrel⟩ := aEff_does (own := own) h.hh h.h hm (fun x y hxy hy => strip_rel (h.ev hxy) (conds_mem hp1 y hy)) hE hp2
            have hst : StRel C' (a.put o.dst v) (s1.put o.dst (.when true av)) := by
              have h1 : StRel C' a s1 := ⟨hH, hh, RelL.nxt hn h.t, h.d⟩
              exact h1.put (av := .when true av) ⟨fun _ => hrel, fun h => by cases h⟩
            unfold Oper.wp
            rcases hrun with hrun | ⟨rfl, hrun⟩
            · rw [hrun]; exact hK C' _ hn hst
            · rw [hrun]; exact hK C' _ hn hst
        · cases hr
      | none =>
        simp only [gval, Option.some.injEq] at hgv
        subst hgv
        simp only [if_true]
        simp only [Option.map_eq_some_iff, Prod.mk.injEq] at hr
        obtain ⟨⟨pre, s1, av⟩, hE, e1, rfl⟩ := hr
        rw [← e1] at hp
        obtain ⟨C', v, hrun, hn, hh, hH, hrel⟩ := aEff_does (own := own) h.hh h.h hm (fun x y hxy hy => strip_rel (h.ev hxy) (conds_mem hp.1 y hy)) hE hp.2
        have hst : StRel C' (a.put o.dst v) (s1.put o.dst av) := by
          have h1 : StRel C' a s1 := ⟨hH, hh, by rw [aEff_t hE]; exact RelL.nxt hn h.t, h.d⟩
          exact h1.put hrel
        unfold Oper.wp
        rcases hrun with hrun | ⟨rfl, hrun⟩
        · rw [hrun]; exact hK C' _ hn hst
        · rw [hrun]; exact hK C' _ hn hst
    · rw [if_neg he] at hr
      have fin : ∀ r : Prop × AV, lookOf mop s = some r → (gb = true → r.1) → (gb = true → Looks P C a o r.2) := fun r h1 h2 h3 => look_one h hm h1 (h2 h3)
      have step : ∀ (av av' : AV), (gb = true → Looks P C a o av) → (gb = true → ∀ v, Rel C av v → Rel C av' v) → (gb = false → Rel C av' undef) → s' = s.put o.dst av' → if gb then o.wp P a C.w next Q else next (a.put o.dst undef) C.w := fun av av' h1 h2 h3 h4 => by
        cases gb
        · simp only [Bool.false_eq_true, if_false]
          exact hK C _ (Nxt.refl C) (by rw [h4]; exact h.put (h3 rfl))
        · simp only [if_true]
          obtain ⟨v, hrel, hrun⟩ := h1 rfl
          unfold Oper.wp
          rw [hrun C.w (Same.refl _)]
          exact hK C _ (Nxt.refl C) (by rw [h4]; exact h.put (h2 rfl v hrel))
      cases g with
      | none =>
        simp only [gval, Option.some.injEq] at hgv
        subst hgv
        simp only [Option.map_eq_some_iff, Prod.mk.injEq] at hr
        obtain ⟨r, h1, e1, rfl⟩ := hr
        rw [← e1] at hp
        exact step r.2 r.2 (fin r h1 fun _ => hp) (fun _ v h => h) (fun h => by cases h) rfl
      | some g =>
        simp only [Option.map_eq_some_iff, Prod.mk.injEq] at hr
        obtain ⟨r, h1, e1, rfl⟩ := hr
        rw [← e1] at hp
        exact step r.2 (.when gb r.2) (fin r h1 hp) (fun hg v h => ⟨fun _ => h, (fun hf => by rw [hg] at hf; cases hf)⟩) (fun hg => ⟨(fun ht => by rw [hg] at ht; cases ht), fun _ => rfl⟩) rfl

/-! ### Regions -/
/-- One operation at a time. -/
def aFlat (P : Program) : List COp → St → (St → Prop) → Prop
  | [], s, K => K s
  | o :: r, s, K =>
    match o.op with
    | .call f args => aCallI P o.dst o.g f args s fun s' => aFlat P r s' K
    | _ => ∃ s', oneOk o s s' ∧ aFlat P r s' K

theorem flat_of_items : ∀ (l : List COp) (s : St) (K : St → Prop), aItems P (group l) s K → aFlat P l s K
  | [], s, K, h => h
  | o :: r, s, K, h => by
    have other : (∀ f args, o.op ≠ .call f args) → aFlat P (o :: r) s K := fun hno => by
      have hg : group (o :: r) = (match group r with | .seg ops :: items => .seg (o :: ops) :: items | items => .seg [o] :: items) := by
        rw [group]
        split
        · rename_i e; exact absurd e (hno _ _)
        · rfl
      rw [hg] at h
      have goal : (∃ s', oneOk o s s' ∧ aFlat P r s' K) → aFlat P (o :: r) s K := fun hx => by
        unfold aFlat
        split
        · rename_i e; exact absurd e (hno _ _)
        · exact hx
      refine goal ?_
      split at h
      · rename_i ops items hgr
        obtain ⟨s1, h1, hK⟩ := h
        refine ⟨s1, h1, flat_of_items r s1 K ?_⟩
        rw [hgr]
        exact hK
      · obtain ⟨s1, h1, hK⟩ := h
        exact ⟨s1, h1, flat_of_items r s1 K hK⟩
    by_cases hcl : ∃ f args, o.op = .call f args
    case neg => exact other fun f args e => hcl ⟨f, args, e⟩
    obtain ⟨f, args, ho⟩ := hcl
    simp only [group, ho] at h
    simp only [aFlat, ho]
    have : ∀ s', aItems P (group r) s' K → aFlat P r s' K := fun s' => flat_of_items r s' K
    unfold aItems aCallI at h
    unfold aCallI
    cases hg : o.g with
    | none =>
      rw [hg] at h
      obtain ⟨F, as, h1, h2, h3⟩ := h
      exact ⟨F, as, h1, h2, h3.mono fun r' H' ⟨B', L', e, eb, k⟩ => ⟨B', L', e, eb, this _ k⟩⟩
    | some g =>
      rw [hg] at h
      obtain ⟨gb, h1, r', h2, h3⟩ := h
      exact ⟨gb, h1, r', h2, this _ h3⟩

/-- What the call's step is. -/
theorem callee_run {C : Cx} {a : Act} {s : St} (h : StRel C a s) {o : Oper} {c : Call} {f : Operand} (ho : o.op = .call c) (hcal : c.callee = .value f) {f' : Opd} {args' : List Opd} (hf : cOpd f = some f') (ha : cOpds c.args = some args') {F : FuncId} {as : List AV} (hce : callee s f' args' = some (F, as)) (hcd : condsOf s (f' :: args'))
    (hfn : ∃ fn, P.funcs[F]? = some fn ∧ fn.body.isSome = true ∧ (fn.name == "runtime.NumGoroutine") = false) : ∃ vals : Array Value, RelL C as vals.toList ∧ ∀ w, (execOp a.eval o).run P w = .ok (.enter F vals) w := by
  obtain ⟨fn, hfn, hbody, hname⟩ := hfn
  have hargs : RelL C (args'.map fun x => (strip (s.ev x)).2) (c.args.toList.map a.eval) := by
    have := opds_rel (C := C) (a := a) (ev := fun y => (strip (s.ev y)).2) (S := args') (fun x y hxy hy => strip_rel (h.ev hxy) (conds_mem hcd.2 y hy)) c.args.toList args' ha (fun y hy => hy)
    exact this
  have hfr := strip_rel (h.ev hf) hcd.1
  have hbn : ¬ fn.body = none := by cases hb : fn.body <;> simp_all
  have hnm : ¬ fn.name = "runtime.NumGoroutine" := by simpa using hname
  have hcall : ∀ (vals : Array Value) w, (callFunc F vals).run P w = .ok (.enter F vals) w := fun vals w => by
    simp [callFunc, hfn, hnm, hbn, pure]
  unfold callee at hce
  split at hce
  · rename_i g caps e
    rw [e] at hfr
    simp only [Option.some.injEq, Prod.mk.injEq] at hce
    obtain ⟨rfl, rfl⟩ := hce
    obtain ⟨vs, hv, hl⟩ := hfr
    refine ⟨c.args.map a.eval ++ vs, by rw [Array.toList_append, Array.toList_map]; exact hargs.append hl, fun w => ?_⟩
    simp [execOp, ho, resolve, hcal, Deferred.ofValue, hv, invoke, hcall, pure]
  · rename_i g e
    rw [e] at hfr
    simp only [Option.some.injEq, Prod.mk.injEq] at hce
    obtain ⟨rfl, rfl⟩ := hce
    refine ⟨c.args.map a.eval, by rw [Array.toList_map]; exact hargs, fun w => ?_⟩
    have hv : a.eval f = .func (.func g) #[] #[] := hfr.scv
    simp [execOp, ho, resolve, hcal, Deferred.ofValue, hv, invoke, hcall, pure]
  · cases hce

theorem cOp_call {o : Oper} {f : Opd} {args : List Opd} (hm : cOp P own o = some (.call f args)) : ∃ c fo, o.op = .call c ∧ c.callee = .value fo ∧ cOpd fo = some f ∧ cOpds c.args = some args := by
  unfold cOp at hm
  split at hm
  case h_22 c ho =>
    split at hm
    case h_3 f' hc =>
      simp only [Option.bind_eq_bind, Option.bind_eq_some_iff, Option.some.injEq, MOp.call.injEq] at hm
      obtain ⟨_, h1, _, h2, rfl, rfl⟩ := hm
      exact ⟨c, f', ho, hc, h1, h2⟩
    all_goals exfalso
    all_goals (repeat' split at hm) <;> simp [Option.bind_eq_some_iff] at hm
  all_goals exfalso
  all_goals (repeat' split at hm) <;> simp [Option.bind_eq_some_iff, mkSlice_pick, mkSlice_call] at hm <;> (obtain ⟨_, _, _, _, hm⟩ := hm; split at hm <;> simp [mkSlice_pick, mkSlice_call] at hm)

theorem put_B (s : St) (d : Option Nat) (a : AV) : (s.put d a).B = s.B := by cases d <;> rfl
theorem put_L (s : St) (d : Option Nat) (a : AV) : (s.put d a).L = s.L := by cases d <;> rfl
theorem aEff_B {mop : MOp} {s s1 : St} {pre : Prop} {av : AV} (h : aEff mop s = some (pre, s1, av)) : s1.B.length = s.B.length := by
  cases mop <;> simp only [aEff, reduceCtorEq] at h
  case alloc z => simp only [Option.some.injEq, Prod.mk.injEq] at h; rw [← h.2.1]
  case box x => simp only [Option.some.injEq, Prod.mk.injEq] at h; rw [← h.2.1]
  case gsl n sz e z ps =>
    simp only [Option.bind_eq_some_iff, Option.map_eq_some_iff, Prod.mk.injEq] at h
    obtain ⟨cs, _, _, _, _, h, _⟩ := h
    rw [← h]
  case bslice o n sz z ps =>
    simp only [Option.bind_eq_some_iff] at h
    obtain ⟨cs, _, h⟩ := h
    split at h
    · simp only [Option.some.injEq, Prod.mk.injEq] at h; rw [← h.2.1]
    · simp only [Option.map_eq_some_iff, Prod.mk.injEq] at h
      obtain ⟨_, _, _, h, _⟩ := h; rw [← h]
  case st n a v =>
    split at h
    · split at h
      · split at h
        · simp only [Option.some.injEq, Prod.mk.injEq] at h; rw [← h.2.1]; simp
        · simp only [Option.some.injEq, Prod.mk.injEq] at h; rw [← h.2.1]
      · cases h
    · cases h
  case msl sz b z l c =>
    split at h
    · simp only [Option.some.injEq, Prod.mk.injEq] at h; rw [← h.2.1]
    · cases h
  case app sz b e x y =>
    simp only [Option.bind_eq_some_iff] at h
    obtain ⟨new, _, h⟩ := h
    split at h
    · simp only [Option.some.injEq, Prod.mk.injEq] at h; rw [← h.2.1]
    · split at h
      · split at h
        · simp only [Option.some.injEq, Prod.mk.injEq] at h; rw [← h.2.1]; simp
        · simp only [Option.some.injEq, Prod.mk.injEq] at h; rw [← h.2.1]
      · cases h
    · cases h
theorem runOne_B {o : COp} {s s' : St} {p : Prop} (h : runOne o s = some (p, s')) : s'.B.length = s.B.length := by
  unfold runOne at h
  split at h
  · cases h
  · split at h
    · split at h
      · simp only [Option.map_eq_some_iff, Prod.mk.injEq] at h
        obtain ⟨⟨pre, s1, av⟩, hE, _, rfl⟩ := h
        rw [put_B]; exact aEff_B hE
      · split at h
        · simp only [Option.map_eq_some_iff, Prod.mk.injEq] at h
          obtain ⟨r, _, _, rfl⟩ := h
          rw [put_B]
        · cases h
    · split at h
      · simp only [Option.map_eq_some_iff, Prod.mk.injEq] at h
        obtain ⟨r, _, _, rfl⟩ := h
        rw [put_B]
      · simp only [Option.map_eq_some_iff, Prod.mk.injEq] at h
        obtain ⟨r, _, _, rfl⟩ := h
        rw [put_B]

theorem flat_sound {ops : Array Oper} {Q : Exit → Act → World → Prop} : ∀ (rest : List Nat) (l : List COp) (s : St) (K : St → Prop) (C : Cx) (a : Act), (rest.mapM fun i => (ops[i]?).bind (cOper P own ops)) = some l → aFlat P l s K → StRel C a s →
    (∀ C' a' s', Nxt C C' → s'.B.length = s.B.length → StRel C' a' s' → K s' → Q .normal a' C'.w) → wpOps P ops Q rest a C.w
  | [], l, s, K, C, a, hl, h, hs, hK => by
    simp only [List.mapM_nil, Option.pure_def, Option.some.injEq] at hl
    subst hl
    exact hK C a s (Nxt.refl C) rfl hs h
  | i :: rest, l, s, K, C, a, hl, h, hs, hK => by
    rw [List.mapM_cons] at hl
    simp only [Option.bind_eq_bind, Option.bind_eq_some_iff, Option.pure_def, Option.some.injEq] at hl
    obtain ⟨c, ⟨o, ho, hc⟩, l', hl', rfl⟩ := hl
    have ih := fun s' C' a' (hn : Nxt C C') (hb : s'.B.length = s.B.length) (h' : aFlat P l' s' K) (hs' : StRel C' a' s') => flat_sound rest l' s' K C' a' hl' h' hs' fun C2 a2 s2 hn2 hb2 hs2 hk2 => hK C2 a2 s2 (hn.trans hn2) (hb2.trans hb) hs2 hk2
    have other : (∃ s', oneOk c s s' ∧ aFlat P l' s' K) → wpOps P ops Q (i :: rest) a C.w := fun ⟨s', hone, hf⟩ => by
      rcases hone with ⟨p, hr, hp⟩ | ⟨hgf, rfl⟩
      rotate_left
      · have hc1 := hc
        simp only [cOper, Option.bind_eq_some_iff, Option.map_eq_some_iff] at hc1
        obtain ⟨mop, _, g, hg, rfl⟩ := hc1
        simp only [wpOps, ho]
        rw [gval_wanted hs hg hgf]
        simp only [Bool.false_eq_true, if_false]
        exact ih _ C _ (Nxt.refl C) (by rw [put_B]) hf (hs.put (av := .when false (.c (.sc undef))) ⟨(fun h => by cases h), fun _ => rfl⟩)
      have := runOne_sound hs hc hr hp (Q := Q) (next := wpOps P ops Q rest) fun C' a' hn hs' => ih s' C' a' hn (runOne_B hr) hf hs'
      simp only [wpOps, ho]
      split
      · rename_i hw; rw [if_pos hw] at this; exact .inl this
      · rename_i hw; rw [if_neg hw] at this; exact this
    unfold aFlat at h
    split at h
    · rename_i f args hop
      have hc0 := hc
      simp only [cOper, Option.bind_eq_some_iff, Option.map_eq_some_iff] at hc
      obtain ⟨mop, hm, g, hg, rfl⟩ := hc
      simp only at hop h
      subst hop
      obtain ⟨cl, fo, ho', hcal, hfo, hargs⟩ := cOp_call hm
      simp only [wpOps, ho]
      unfold aCallI at h
      cases g with
      | none =>
        obtain ⟨F, as, hce, hcd, hA⟩ := h
        rw [gval_wanted hs hg rfl]
        simp only [if_true]
        obtain ⟨vals, hv, hrun⟩ := callee_run hs ho' hcal hfo hargs hce hcd hA.1
        refine .inl ?_
        unfold Oper.wp
        rw [hrun]
        refine (hA.2 C vals hs.hh hs.h hv).mono fun e w'' ⟨v, C', r, he, hw, hn, hh, hrel, B', L', hH, hBl, hk⟩ => ?_
        subst he; subst hw
        exact ih _ C' _ hn (by rw [put_B]; exact hBl) hk ((hs.nxt hn hh hH).put hrel)
      | some g =>
        obtain ⟨gb, hgv, r, hcall, hk⟩ := h
        rw [gval_wanted hs hg hgv]
        cases gb
        · simp only [Bool.false_eq_true, if_false]
          exact ih _ C _ (Nxt.refl C) (by rw [put_B]) hk (hs.put (av := .when false r) ⟨(fun h => by cases h), fun _ => rfl⟩)
        · simp only [if_true]
          obtain ⟨F, as, hce, hcd, hA⟩ := hcall rfl
          obtain ⟨vals, hv, hrun⟩ := callee_run hs ho' hcal hfo hargs hce hcd hA.1
          refine .inl ?_
          unfold Oper.wp
          rw [hrun]
          refine (hA.2 C vals hs.hh hs.h hv).mono fun e w'' ⟨v, C', r', he, hw, hn, hh, hrel, hr, hH⟩ => ?_
          subst he; subst hw; subst hr
          have hs' : StRel C' a s := ⟨hH, hh, RelL.nxt hn hs.t, hs.d⟩
          exact ih _ C' _ hn (by rw [put_B]) hk (hs'.put (av := .when true r') ⟨fun _ => hrel, (fun h => by cases h)⟩)
    · exact other h
end
end Go.Den
namespace Go.Den

section
variable {P : Program} {own : Nat}
def StepA (P : Program) (c : COp) (s : St) (av : AV) : Prop :=
  match c.op with
  | .call f args => ∃ gb, gval s c.g = some gb ∧ ∃ r, av = (if c.g.isSome then .when gb r else r) ∧ (gb = true → ∃ F as, callee s f args = some (F, as) ∧ condsOf s (f :: args) ∧ PCalls P F as (s.B ++ s.L) r)
  | op => stillOp op = true ∧ oneOk c s (s.put c.dst av)
def aFlatA (P : Program) : List COp → St → (St → Prop) → Prop
  | [], s, K => K s
  | c :: r, s, K => ∃ av, StepA P c s av ∧ aFlatA P r (s.put c.dst av) K

/-! ### What an operation says depends on what it reads -/
theorem map_ev {α : Type} {ev ev' : Opd → AV} {l : List α} {f : α → Opd} (h : ∀ x ∈ l, ev (f x) = ev' (f x)) : l.map (fun x => ev (f x)) = l.map (fun x => ev' (f x)) := List.map_congr_left h
theorem aPure_congr {op : MOp} {ev ev' : Opd → AV} {lk : Nat → Option Ent} (h : ∀ x ∈ opds op, ev x = ev' x) : aPure op ev lk = aPure op ev' lk := by
  cases op <;> simp only [opds, List.mem_cons, List.mem_singleton, List.not_mem_nil, or_false, List.mem_append, forall_eq_or_imp, forall_eq] at h
  case build z ps =>
    have : ps.map (fun p => (p.1, p.2.1, ev p.2.2)) = ps.map (fun p => (p.1, p.2.1, ev' p.2.2)) := List.map_congr_left fun p hp => by rw [h _ (List.mem_map_of_mem hp)]
    simp only [aPure, this]
  case mkf f caps =>
    have : caps.map ev = caps.map ev' := List.map_congr_left h
    simp only [aPure, this]
  case slc sz x lo hi mx =>
    have hx : ev x = ev' x := h x (by simp)
    have hlo : lo.map ev = lo.map ev' := by cases lo with | none => rfl | some y => simp only [Option.map_some, h y (by simp)]
    have hhi : hi.map ev = hi.map ev' := by cases hi with | none => rfl | some y => simp only [Option.map_some, h y (by simp)]
    have hmx : mx.map ev = mx.map ev' := by cases mx with | none => rfl | some y => simp only [Option.map_some, h y (by simp)]
    simp only [aPure, hx, hlo, hhi, hmx]
  case sls x lo hi =>
    have hx : ev x = ev' x := h x (by simp)
    have hlo : lo.map ev = lo.map ev' := by cases lo with | none => rfl | some y => simp only [Option.map_some, h y (by simp)]
    have hhi : hi.map ev = hi.map ev' := by cases hi with | none => rfl | some y => simp only [Option.map_some, h y (by simp)]
    simp only [aPure, hx, hlo, hhi]
  all_goals first
    | rfl
    | (simp only [aPure, h]; done)
    | (obtain ⟨h1, h2⟩ := h; simp only [aPure, h1, h2]; done)
theorem condsOf_congr {s s' : St} : ∀ {l : List Opd}, (∀ x ∈ l, s.ev x = s'.ev x) → (condsOf s l ↔ condsOf s' l)
  | [], _ => Iff.rfl
  | x :: r, h => by
    simp only [condsOf, h x (by simp), condsOf_congr (l := r) fun y hy => h y (by simp [hy])]
theorem condsOf_eq {s s' : St} {l : List Opd} (h : ∀ x ∈ l, s.ev x = s'.ev x) : condsOf s l = condsOf s' l := propext (condsOf_congr h)
theorem lookOf_congr {op : MOp} {s s' : St} (h : ∀ x ∈ opds op, s.ev x = s'.ev x) (hl : s.look = s'.look) : lookOf op s = lookOf op s' := by
  have key : (aPure op (fun x => (strip (s.ev x)).2) s.look).map (fun (r : Prop × AV) => (condsOf s (opds op) ∧ r.1, r.2)) = (aPure op (fun x => (strip (s'.ev x)).2) s'.look).map (fun (r : Prop × AV) => (condsOf s' (opds op) ∧ r.1, r.2)) := by
    rw [aPure_congr (ev := fun x => (strip (s.ev x)).2) (ev' := fun x => (strip (s'.ev x)).2) fun x hx => by simp only [h x hx], hl, condsOf_eq h]
  cases op
  case pick c a b =>
    simp only [opds, List.mem_cons, List.not_mem_nil, or_false, forall_eq_or_imp, forall_eq] at h
    simp only [lookOf, aPick, h.1, h.2.1, h.2.2]
  all_goals exact key
theorem gval_congr {s s' : St} {g : Option (Nat × Bool)} (h : ∀ x, g = some x → s.t.getD x.1 .any = s'.t.getD x.1 .any) : gval s g = gval s' g := by
  cases g with
  | none => rfl
  | some x => simp only [gval, h x rfl]
theorem ev_congr {s s' : St} {c : COp} (h : ∀ t ∈ readsOf c, s.t.getD t .any = s'.t.getD t .any) : ∀ x ∈ opds c.op, s.ev x = s'.ev x := fun x hx => by
  cases x with
  | cst v => rfl
  | tmp t => exact h t (List.mem_append_left _ (List.mem_filterMap.2 ⟨.tmp t, hx, rfl⟩))
theorem put_ne (s s' : St) (hB : s'.B = s.B) (hL : s'.L = s.L) (d : Option Nat) (a : AV) : (s'.put d a).B = (s.put d a).B ∧ (s'.put d a).L = (s.put d a).L := by
  cases d <;> exact ⟨hB, hL⟩
def growOf : Option Ent → Option (List (List CV))
  | some (.grow _ _ rows) => some rows
  | _ => none
theorem close_congr {lk lk' : Nat → Option Ent} (h : ∀ b, growOf (lk b) = growOf (lk' b)) : AV.close lk = AV.close lk' := by
  have e : ∀ (lk : Nat → Option Ent) (b n : Nat), AV.close lk (.gs b n) = (growOf (lk b)).map fun rows => .sl (rows.take n) := fun lk b n => by
    simp only [AV.close]
    cases lk b with
    | none => rfl
    | some x => cases x <;> rfl
  funext x
  cases x
  case gs b n => rw [e, e, h b]
  all_goals rfl
theorem bslice_congr {n sz : Nat} {z : List Value} {ps : List (Nat × Nat × Opd)} {s s' : St} {p : Prop} {av : AV} (h : aEff (.bslice false n sz z ps) s = some (p, s, av)) (he : ∀ x ∈ opds (.bslice false n sz z ps), s.ev x = s'.ev x) (hg : ∀ b, growOf (s.look b) = growOf (s'.look b)) : aEff (.bslice false n sz z ps) s' = some (p, s', av) := by
  have : ps.map (fun p => (p.1, p.2.1, (strip (s.ev p.2.2)).2)) = ps.map (fun p => (p.1, p.2.1, (strip (s'.ev p.2.2)).2)) := List.map_congr_left fun p hp => by rw [he _ (by simp only [opds]; exact List.mem_map_of_mem hp)]
  simp only [aEff, Bool.false_eq_true, if_false, this] at h ⊢
  simp only [Option.bind_eq_some_iff, Option.map_eq_some_iff, Prod.mk.injEq] at h ⊢
  obtain ⟨cs, h1, rows, h2, h3, _, h4⟩ := h
  have hcl : closeRows s'.look (rowsFrom sz n cs) = some rows := by
    unfold closeRows closeRow at h2 ⊢
    rw [← close_congr hg]; exact h2
  exact ⟨cs, h1, rows, hcl, h3, trivial, h4⟩

theorem put_t_inj {s : St} {d : Option Nat} {a b : AV} (h : s.put d a = s.put d b) (s' : St) (hl : s'.t.length = s.t.length) : s'.put d a = s'.put d b := by
  cases d with
  | none => rfl
  | some d =>
    have h1 : s.t.set d a = s.t.set d b := congrArg St.t h
    show ({ s' with t := s'.t.set d a } : St) = { s' with t := s'.t.set d b }
    by_cases hd : d < s.t.length
    · have h2 : (s.t.set d a)[d]? = (s.t.set d b)[d]? := by rw [h1]
      simp [hd] at h2
      rw [h2]
    · rw [List.set_eq_of_length_le (by omega), List.set_eq_of_length_le (by omega)]


/-- The same kinds of blocks. -/
def KindEq (s s' : St) : Prop := (s'.B.length = s.B.length ∧ ∀ b, growOf (s.look b) = growOf (s'.look b)) ∧ ∀ b, (∃ sz rows, s.look b = some (.mem sz rows)) ↔ (∃ sz rows, s'.look b = some (.mem sz rows))
def ifMem {α : Type} (a c : α) : Option Ent → α
  | some (.mem _ _) => a
  | _ => c
theorem memQ {α : Type} (a c : α) (x y : Option Ent) (h : (∃ sz rows, x = some (.mem sz rows)) ↔ (∃ sz rows, y = some (.mem sz rows))) : ifMem a c x = ifMem a c y := by
  have nox : ∀ z : Option Ent, (¬ ∃ sz rows, z = some (.mem sz rows)) → ifMem a c z = c := fun z hz => by
    cases z with
    | none => rfl
    | some e => cases e with
      | grow _ _ _ => rfl
      | mem sz rows => exact absurd ⟨sz, rows, rfl⟩ hz
  by_cases hx : ∃ sz rows, x = some (.mem sz rows)
  · obtain ⟨_, _, hy⟩ := h.1 hx
    obtain ⟨_, _, hx⟩ := hx
    rw [hx, hy]; rfl
  · rw [nox x hx, nox y fun hy => hx (h.2 hy)]
theorem aPure_blind {op : MOp} (hb : blindOp op = true) {ev : Opd → AV} {lk lk' : Nat → Option Ent} (h : ∀ b, (∃ sz rows, lk b = some (.mem sz rows)) ↔ (∃ sz rows, lk' b = some (.mem sz rows))) : aPure op ev lk = aPure op ev lk' := by
  cases op <;> simp only [blindOp, Bool.false_eq_true, Bool.not_eq_true', reduceCtorEq] at hb <;> try rfl
  case nilc x =>
    simp only [aPure]
    cases ev x <;> first | rfl | exact memQ _ _ _ _ (h _)
  case fad off x =>
    simp only [aPure]
    cases ev x <;> first | rfl | exact memQ _ _ _ _ (h _)
  case iaa n sz x i =>
    simp only [aPure]
    cases intOf? (ev i) with
    | none => rfl
    | some i =>
      simp only [iaaF]
      cases ev x <;> first | rfl | exact memQ _ _ _ _ (h _)
/-- The memory that an operation reads is the same. -/
def MemAgree (op : MOp) (s s' : St) : Prop :=
  s'.B.length = s.B.length ∧ (match op with
  | .call _ _ => s'.B = s.B ∧ s'.L = s.L
  | .ldc x | .lda _ x => ∀ b i off, (strip (s.ev x)).2 = .op b i off → s'.look b = s.look b
  | op => if blindOp op then KindEq s s' else s'.look = s.look)
theorem lookOf_agree {op : MOp} {s s' : St} (h : ∀ x ∈ opds op, s.ev x = s'.ev x) (hm : MemAgree op s s') (hnc : ∀ f args, op ≠ .call f args) : lookOf op s = lookOf op s' := by
  have h0 : lookOf op s = lookOf op { s' with B := s.B, L := s.L } := lookOf_congr h rfl
  rw [h0]
  have hc : condsOf { s' with B := s.B, L := s.L } (opds op) = condsOf s' (opds op) := condsOf_eq fun x _ => rfl
  have same : aPure op (fun x => (strip (({ s' with B := s.B, L := s.L } : St).ev x)).2) ({ s' with B := s.B, L := s.L } : St).look = aPure op (fun x => (strip (s'.ev x)).2) s'.look → lookOf op { s' with B := s.B, L := s.L } = lookOf op s' := fun e => by
    cases op
    case pick c a b => rfl
    all_goals (simp only [lookOf]; rw [e, hc])
  refine same ?_
  have hl : ({ s' with B := s.B, L := s.L } : St).look = s.look := rfl
  rw [hl]
  have hev : (fun x => (strip (({ s' with B := s.B, L := s.L } : St).ev x)).2) = fun x => (strip (s'.ev x)).2 := rfl
  rw [hev]
  obtain ⟨_, hm⟩ := hm
  have ld : ∀ x, (∀ b i off, (strip (s.ev x)).2 = .op b i off → s'.look b = s.look b) → s.ev x = s'.ev x → ∀ b i off, (strip (s'.ev x)).2 = .op b i off → s.look b = s'.look b := fun x hx e b i off hb => (hx b i off (by rw [e]; exact hb)).symm
  cases op
  case ldc x =>
    have := ld x hm (h x (by simp [opds]))
    simp only [aPure]
    cases hx : (strip (s'.ev x)).2 <;> first | rfl | (simp only [this _ _ _ hx])
  case lda n x =>
    have := ld x hm (h x (by simp [opds]))
    simp only [aPure]
    cases hx : (strip (s'.ev x)).2 <;> first | rfl | (simp only [this _ _ _ hx])
  case call f args => exact absurd rfl (hnc f args)
  all_goals first
    | (have hk : KindEq s s' := by simpa [blindOp] using hm
       exact aPure_blind rfl hk.2)
    | (have hk : s'.look = s.look := by simpa [blindOp] using hm
       rw [hk])
    | (simp only [aPure])
theorem StepA.congr {c : COp} {s s' : St} {av : AV} (h : StepA P c s av) (hmem : MemAgree c.op s s') (hlen : s'.t.length = s.t.length) (hr : ∀ t ∈ readsOf c, s.t.getD t .any = s'.t.getD t .any) : StepA P c s' av := by
  have hev := ev_congr hr
  have hg : gval s c.g = gval s' c.g := gval_congr fun x hx => hr x.1 (List.mem_append_right _ (by rw [hx]; simp))
  unfold StepA at h ⊢
  split at h
  · rename_i f args hop
    simp only [hop, opds] at hev
    obtain ⟨gb, h1, r, h2, h3⟩ := h
    refine ⟨gb, hg ▸ h1, r, h2, fun hgb => ?_⟩
    obtain ⟨F, as, h4, h5, h6⟩ := h3 hgb
    have hargs : args.map (fun x => (strip (s.ev x)).2) = args.map (fun x => (strip (s'.ev x)).2) := List.map_congr_left fun x hx => by rw [hev x (by simp [hx])]
    have hBL : s'.B = s.B ∧ s'.L = s.L := by rw [hop] at hmem; exact hmem.2
    refine ⟨F, as, ?_, (condsOf_congr hev).1 h5, by rw [hBL.1, hBL.2]; exact h6⟩
    unfold callee at h4 ⊢
    rw [← hev f (by simp), ← hargs]
    exact h4
  · rename_i hop
    refine ⟨h.1, ?_⟩
    rcases h.2 with ⟨p, hrun, hp⟩ | ⟨hgf, he⟩
    · refine .inl ⟨p, ?_, hp⟩
      unfold runOne at hrun ⊢
      rw [← hg]
      split at hrun
      · cases hrun
      · rename_i gb hgv
        split at hrun
        · rename_i heff
          rw [if_pos heff]
          obtain ⟨n, sz, z, ps, hop2⟩ := still_eff h.1 heff
          simp only [hop2] at hrun hev ⊢
          cases hgn : c.g with
          | none =>
            simp only [hgn] at hrun ⊢
            simp only [Option.map_eq_some_iff, Prod.mk.injEq] at hrun ⊢
            obtain ⟨⟨q, s1, v⟩, hE, hq, hput⟩ := hrun
            have := bslice_same hE
            subst this
            refine ⟨⟨q, s', v⟩, bslice_congr hE hev (by rw [hop2] at hmem; exact hmem.2.1.2), ?_, put_t_inj hput s' hlen⟩
            rw [← condsOf_eq hev]; exact hq
          | some g =>
            simp only [hgn, stillOp, Bool.not_false, if_true] at hrun ⊢
            simp only [Option.map_eq_some_iff, Prod.mk.injEq] at hrun ⊢
            obtain ⟨⟨q, s1, v⟩, hE, hq, hput⟩ := hrun
            have := bslice_same hE
            subst this
            refine ⟨⟨q, s', v⟩, bslice_congr hE hev (by rw [hop2] at hmem; exact hmem.2.1.2), ?_, put_t_inj hput s' hlen⟩
            rw [← condsOf_eq hev]; exact hq
        · rename_i heff
          rw [if_neg heff]
          rw [← lookOf_agree hev hmem (fun f args e => hop f args e)]
          cases hgn : c.g with
          | none =>
            simp only [hgn] at hrun ⊢
            simp only [Option.map_eq_some_iff, Prod.mk.injEq] at hrun ⊢
            obtain ⟨r, h1, h2, hput⟩ := hrun
            exact ⟨r, h1, h2, put_t_inj hput s' hlen⟩
          | some g =>
            simp only [hgn] at hrun ⊢
            simp only [Option.map_eq_some_iff, Prod.mk.injEq] at hrun ⊢
            obtain ⟨r, h1, h2, hput⟩ := hrun
            exact ⟨r, h1, h2, put_t_inj hput s' hlen⟩
    · refine .inr ⟨hg ▸ hgf, ?_⟩
      exact put_t_inj he s' hlen

theorem still_put {c : COp} {s s' : St} (hs : stillOp c.op = true) (h : oneOk c s s') : ∃ av, s' = s.put c.dst av := by
  rcases h with ⟨p, hr, hp⟩ | ⟨_, he⟩
  · unfold runOne at hr
    split at hr
    · cases hr
    · split at hr
      · rename_i heff
        obtain ⟨n, sz, z, ps, hop⟩ := still_eff hs heff
        simp only [hop] at hr
        cases hgn : c.g with
        | none =>
          simp only [hgn, Option.map_eq_some_iff, Prod.mk.injEq] at hr
          obtain ⟨⟨q, s1, v⟩, hE, _, hput⟩ := hr
          have := bslice_same hE
          subst this
          exact ⟨v, hput.symm⟩
        | some g =>
          simp only [hgn, stillOp, Bool.not_false, if_true, Option.map_eq_some_iff, Prod.mk.injEq] at hr
          obtain ⟨r, _, _, hput⟩ := hr
          exact ⟨_, hput.symm⟩
      · cases hgn : c.g with
        | none =>
          simp only [hgn, Option.map_eq_some_iff, Prod.mk.injEq] at hr
          obtain ⟨r, _, _, hput⟩ := hr
          exact ⟨_, hput.symm⟩
        | some g =>
          simp only [hgn, Option.map_eq_some_iff, Prod.mk.injEq] at hr
          obtain ⟨r, _, _, hput⟩ := hr
          exact ⟨_, hput.symm⟩
  · exact ⟨_, he⟩

/-! ### Stores -/
def hset (s : St) (b : Nat) (e : Ent) : St := if b < s.B.length then { s with B := s.B.set b e } else { s with L := s.L.set (b - s.B.length) e }
def happ (s : St) : Option (Nat × Ent) → St
  | none => s
  | some x => hset s x.1 x.2
theorem runOne_st {c : COp} {n : Nat} {a v : Opd} (hop : c.op = .st n a v) (hg : c.g = none) {s s' : St} {p : Prop} (h : runOne c s = some (p, s')) :
    ∃ b i off sz rows rows', (strip (s.ev a)).2 = .op b i off ∧ s.look b = some (.mem sz rows) ∧ s' = (hset s b (.mem sz rows')).put c.dst (.c (.sc undef)) := by
  simp only [runOne, hop, hg, gval, isEff, if_true, aEff, Option.map_eq_some_iff, Prod.mk.injEq] at h
  obtain ⟨⟨q, s1, w⟩, h, _, rfl⟩ := h
  split at h
  · rename_i b i off hx
    split at h
    · rename_i sz rows hl
      split at h
      · rename_i hb
        simp only [Option.some.injEq, Prod.mk.injEq] at h
        obtain ⟨_, rfl, rfl⟩ := h
        exact ⟨b, i, off, sz, rows, _, hx, hl, by unfold hset; rw [if_pos hb]⟩
      · rename_i hb
        simp only [Option.some.injEq, Prod.mk.injEq] at h
        obtain ⟨_, rfl, rfl⟩ := h
        exact ⟨b, i, off, sz, rows, _, hx, hl, by unfold hset; rw [if_neg hb]⟩
    · cases h
  · cases h
theorem hset_t (s : St) (b : Nat) (e : Ent) : (hset s b e).t = s.t := by unfold hset; split <;> rfl
theorem runOne_st_congr {c : COp} {n : Nat} {a v : Opd} (hop : c.op = .st n a v) (hg : c.g = none) {s s2 s' : St} {p : Prop} (h : runOne c s = some (p, s')) (hev : ∀ x ∈ opds c.op, s.ev x = s2.ev x) (hB : s2.B.length = s.B.length)
    {b i off : Nat} (hx : (strip (s.ev a)).2 = .op b i off) (hl : s2.look b = s.look b) {e : Ent} {av : AV} (hs' : s' = (hset s b e).put c.dst av) (hlen : s2.t.length = s.t.length) : runOne c s2 = some (p, (hset s2 b e).put c.dst av) ∨ s.look b = none := by
  rw [hop] at hev
  have ha : s2.ev a = s.ev a := (hev a (by simp [opds])).symm
  have hv : s2.ev v = s.ev v := (hev v (by simp [opds])).symm
  have hc : condsOf s2 (opds (.st n a v)) = condsOf s (opds (.st n a v)) := condsOf_eq fun x hx => (hev x hx).symm
  cases hlk : s.look b with
  | none => exact .inr rfl
  | some ent =>
    refine .inl ?_
    rw [hlk] at hl
    simp only [runOne, hop, hg, gval, isEff, if_true, aEff, hx, hlk] at h
    cases ent with
    | grow _ _ _ => simp at h
    | mem sz rows =>
      simp only [runOne, hop, hg, gval, isEff, if_true, aEff, ha, hv, hx, hl, hB, hc]
      have put_inj : ∀ (A A2 : St) (d : Option Nat) (x y : AV), A.put d x = A.put d y → A.t = s.t → A2.t = s2.t → A2.put d x = A2.put d y := fun A A2 d x y hh h1 h2 => put_t_inj hh A2 (by rw [h1, h2]; exact hlen)
      by_cases hb : b < s.B.length
      · simp only [if_pos hb, Option.map_some, Option.some.injEq, Prod.mk.injEq] at h ⊢
        refine ⟨h.1, ?_⟩
        have h2 := h.2.trans hs'
        have hb2 : b < s2.B.length := by rw [hB]; exact hb
        unfold hset at h2 ⊢
        rw [if_pos hb] at h2
        rw [if_pos hb2]
        have hBq : s.B.set b (Ent.mem sz (rows.set i ((rows.getD i []).take off ++ (strip (s.ev v)).2.cells ++ (rows.getD i []).drop (off + n)))) = s.B.set b e := by
          have := congrArg St.B h2
          cases hd : c.dst <;> simpa [hd, St.put] using this
        have he : Ent.mem sz (rows.set i ((rows.getD i []).take off ++ (strip (s.ev v)).2.cells ++ (rows.getD i []).drop (off + n))) = e := by
          have := congrArg (fun l => l[b]?) hBq
          simpa [hb] using this
        rw [he]
        rw [he] at h2
        exact put_inj _ _ _ _ _ h2 rfl rfl
      · simp only [if_neg hb, Option.map_some, Option.some.injEq, Prod.mk.injEq] at h ⊢
        refine ⟨h.1, ?_⟩
        have h2 := h.2.trans hs'
        have hb2 : ¬ b < s2.B.length := by rw [hB]; exact hb
        unfold hset at h2 ⊢
        rw [if_neg hb] at h2
        rw [if_neg hb2, hB]
        have hLlt : b - s.B.length < s.L.length := by
          unfold St.look at hlk
          have := (List.getElem?_eq_some_iff.1 hlk).1
          simp at this; omega
        have hLq : s.L.set (b - s.B.length) (Ent.mem sz (rows.set i ((rows.getD i []).take off ++ (strip (s.ev v)).2.cells ++ (rows.getD i []).drop (off + n)))) = s.L.set (b - s.B.length) e := by
          have := congrArg St.L h2
          cases hd : c.dst <;> simpa [hd, St.put] using this
        have he : Ent.mem sz (rows.set i ((rows.getD i []).take off ++ (strip (s.ev v)).2.cells ++ (rows.getD i []).drop (off + n))) = e := by
          have := congrArg (fun l => l[b - s.B.length]?) hLq
          simpa [hLlt] using this
        rw [he]
        rw [he] at h2
        exact put_inj _ _ _ _ _ h2 rfl rfl

/-- An operation of a region in open order: it looks, or it stores. -/
def StepX (P : Program) (c : COp) (s : St) (av : AV) (hu : Option (Nat × Ent)) : Prop :=
  (stillOp c.op = true ∧ hu = none ∧ StepA P c s av) ∨
  (c.g = none ∧ ∃ n a v b i off e p sz rows rows', c.op = .st n a v ∧ hu = some (b, e) ∧ (strip (s.ev a)).2 = .op b i off ∧ s.look b = some (.mem sz rows) ∧ e = .mem sz rows' ∧ runOne c s = some (p, (hset s b e).put c.dst av) ∧ p)
def aFlatX (P : Program) : List COp → St → (St → Prop) → Prop
  | [], s, K => K s
  | c :: r, s, K => ∃ av hu, StepX P c s av hu ∧ aFlatX P r ((happ s hu).put c.dst av) K
theorem flatX_of_items : ∀ (l : List COp) (s : St) (K : St → Prop), aItemsQ P (group l) s K → aFlatX P l s K
  | [], s, K, h => h
  | o :: r, s, K, h => by
    by_cases hcl : ∃ f args, o.op = .call f args
    · obtain ⟨f, args, ho⟩ := hcl
      simp only [group, ho] at h
      obtain ⟨gb, h1, x, h2, h3⟩ := h
      refine ⟨if o.g.isSome then .when gb x else x, none, .inl ⟨by rw [ho]; rfl, rfl, ?_⟩, flatX_of_items r _ K h3⟩
      unfold StepA
      rw [ho]
      exact ⟨gb, h1, x, rfl, h2⟩
    · have hno : ∀ f args, o.op ≠ .call f args := fun f args e => hcl ⟨f, args, e⟩
      have hg : group (o :: r) = (match group r with | .seg ops :: items => .seg (o :: ops) :: items | items => .seg [o] :: items) := by
        rw [group]
        split
        · rename_i e; exact absurd e (hno _ _)
        · rfl
      rw [hg] at h
      have goal : xOp o = true → (∃ s', oneOk o s s' ∧ aFlatX P r s' K) → aFlatX P (o :: r) s K := fun hst ⟨s', h1, h2⟩ => by
        by_cases hs : stillOp o.op = true
        · obtain ⟨av, rfl⟩ := still_put hs h1
          refine ⟨av, none, .inl ⟨hs, rfl, ?_⟩, h2⟩
          unfold StepA
          split
          · rename_i e; exact absurd e (hno _ _)
          · exact ⟨hs, h1⟩
        · simp only [xOp, hs, Bool.false_or, Bool.and_eq_true] at hst
          have hgn : o.g = none := by cases hg : o.g with | none => rfl | some _ => rw [hg] at hst; cases hst.2
          obtain ⟨n, a, v, hop⟩ : ∃ n a v, o.op = .st n a v := by
            cases hop : o.op <;> simp only [hop, stOp, Bool.false_eq_true, false_and] at hst
            exact ⟨_, _, _, rfl⟩
          rcases h1 with ⟨p, hr, hp⟩ | ⟨hgf, _⟩
          · obtain ⟨b, i, off, sz, rows, rows', hx, hl, rfl⟩ := runOne_st hop hgn hr
            exact ⟨.c (.sc undef), some (b, .mem sz rows'), .inr ⟨hgn, n, a, v, b, i, off, _, p, sz, rows, rows', hop, rfl, hx, hl, rfl, hr, hp⟩, h2⟩
          · rw [hgn] at hgf; cases hgf
      split at h
      · rename_i ops items hgr
        obtain ⟨hall, s1, h1, hK⟩ := h
        simp only [List.all_cons, Bool.and_eq_true] at hall
        refine goal hall.1 ⟨s1, h1, flatX_of_items r s1 K ?_⟩
        rw [hgr]
        exact ⟨hall.2, hK⟩
      · obtain ⟨hall, s1, h1, hK⟩ := h
        simp only [List.all_cons, Bool.and_eq_true] at hall
        exact goal hall.1 ⟨s1, h1, flatX_of_items r s1 K hK⟩

/-! ### Tables of what has been written -/
def wset {α : Type} (x : Option (Nat × α)) (t : List α) : List α := match x with
  | some x => t.set x.1 x.2
  | none => t
def wtab {α : Type} (w : Nat → Option (Nat × α)) (D : Nat → Bool) (t : List α) : Nat → List α
  | 0 => t
  | n + 1 => if D n then wset (w n) (wtab w D t n) else wtab w D t n
section
variable {α : Type} {w : Nat → Option (Nat × α)} {D D' : Nat → Bool} {t : List α}
theorem wtab_length : ∀ n, (wtab w D t n).length = t.length
  | 0 => rfl
  | n + 1 => by
    unfold wtab
    split
    · unfold wset
      split
      · rw [List.length_set, wtab_length]
      · exact wtab_length n
    · exact wtab_length n
theorem wtab_get {x : Nat} : ∀ n, (∀ k, k < n → ∀ a, w k = some (x, a) → D k = D' k) → (wtab w D t n)[x]? = (wtab w D' t n)[x]?
  | 0, _ => rfl
  | n + 1, h => by
    have ih := wtab_get n fun k hk a ha => h k (by omega) a ha
    cases hw : w n with
    | none => simp only [wtab, wset, hw]; split <;> split <;> exact ih
    | some y =>
      obtain ⟨d, a⟩ := y
      by_cases hd : d = x
      · subst hd
        have hD := h n (by omega) a hw
        simp only [wtab, wset, hw, ← hD]
        split
        · simp only [List.getElem?_set, if_true, wtab_length]
        · exact ih
      · simp only [wtab, wset, hw]
        have e : ∀ l : List α, (l.set d a)[x]? = l[x]? := fun l => by rw [List.getElem?_set, if_neg hd]
        split <;> split <;> (try simp only [e]) <;> exact ih
theorem wtab_ext : ∀ n, (∀ k, k < n → w k ≠ none → D k = D' k) → wtab w D t n = wtab w D' t n
  | 0, _ => rfl
  | n + 1, h => by
    have ih := wtab_ext n fun k hk hne => h k (by omega) hne
    cases hw : w n with
    | none => simp only [wtab, wset, hw]; split <;> split <;> exact ih
    | some y => simp only [wtab, wset, hw, h n (by omega) (by rw [hw]; simp), ih]
theorem wtab_more {i : Nat} (hD : D i = false) (hD' : ∀ k, D' k = (D k || k == i)) : ∀ n, i < n → (∀ k, i < k → k < n → ∀ d a b, w i = some (d, a) → w k = some (d, b) → D k = false) →
    wtab w D' t n = wset (w i) (wtab w D t n)
  | 0, hi, _ => by omega
  | n + 1, hi, h => by
    by_cases hin : i = n
    · subst hin
      have e1 : D' i = true := by rw [hD']; simp
      have e2 : wtab w D' t i = wtab w D t i := wtab_ext i fun k hk _ => by
        rw [hD']
        have : (k == i) = false := by simp; omega
        simp [this]
      simp only [wtab, e1, hD, if_true, e2, Bool.false_eq_true, if_false]
    · have ih := wtab_more hD hD' n (by omega) fun k hk hkn => h k hk (by omega)
      have e1 : D' n = D n := by
        rw [hD']
        have : (n == i) = false := by simp; omega
        simp [this]
      simp only [wtab, e1]
      split
      · rename_i hDn
        rw [ih]
        cases hwn : w n with
        | none => rfl
        | some y =>
          cases hwi : w i with
          | none => rfl
          | some z =>
            obtain ⟨d, a⟩ := z
            obtain ⟨d2, b⟩ := y
            have hne : d ≠ d2 := fun e => by
              subst e
              have := h n (by omega) (by omega) d a b hwi hwn
              rw [hDn] at this; cases this
            exact List.set_comm _ _ hne
      · exact ih
theorem wtab_lt {i : Nat} : ∀ n, i ≤ n → wtab w (fun _ => true) t i = wtab w (fun k => decide (k < i)) t n
  | 0, h => by
    have : i = 0 := by omega
    subst this; rfl
  | n + 1, h => by
    by_cases hin : i = n + 1
    · subst hin
      exact wtab_ext (n + 1) fun k hk _ => by simp [hk]
    · rw [wtab_lt n (by omega)]
      have : decide (n < i) = false := by simp; omega
      simp only [wtab, this, Bool.false_eq_true, if_false]
end
/-- Blocks keep their kinds. -/
theorem wtab_kind {w : Nat → Option (Nat × Ent)} {D : Nat → Bool} {t : List Ent} : ∀ n, (∀ k, k < n → ∀ (b : Nat) (e : Ent), w k = some (b, e) → (∃ sz rows, e = Ent.mem sz rows) ∧ ∃ sz rows, t[b]? = some (Ent.mem sz rows)) →
    ∀ b : Nat, (∃ sz rows, (wtab w D t n)[b]? = some (Ent.mem sz rows)) ↔ (∃ sz rows, t[b]? = some (Ent.mem sz rows))
  | 0, _, b => Iff.rfl
  | n + 1, h, b => by
    have ih := wtab_kind (w := w) (D := D) (t := t) n (fun k hk => h k (by omega)) b
    simp only [wtab, wset]
    split
    · cases hw : w n with
      | none => exact ih
      | some y =>
        obtain ⟨d, e⟩ := y
        simp only
        by_cases hd : d = b
        · subst hd
          obtain ⟨⟨sz, rows, he⟩, sz2, rows2, ht⟩ := h n (by omega) d e hw
          have hlt : d < (wtab w D t n).length := by rw [wtab_length]; exact (List.getElem?_eq_some_iff.1 ht).1
          refine ⟨fun _ => ⟨sz2, rows2, ht⟩, fun _ => ⟨sz, rows, by rw [List.getElem?_set, if_pos rfl, if_pos hlt, he]⟩⟩
        · rw [List.getElem?_set, if_neg hd]; exact ih
    · exact ih
end

section
variable {P : Program} {own : Nat}
/-! ### The state behind some of the operations -/
def mkS (s : St) (t : List AV) (H : List Ent) : St := { t := t, B := H.take s.B.length, L := H.drop s.B.length }
theorem mkS_self (s : St) : mkS s s.t (s.B ++ s.L) = s := by simp [mkS]
theorem mkS_H (s : St) (t : List AV) (H : List Ent) : (mkS s t H).B ++ (mkS s t H).L = H := List.take_append_drop _ _
theorem mkS_look (s : St) (t : List AV) (H : List Ent) (b : Nat) : (mkS s t H).look b = H[b]? := by unfold St.look; rw [mkS_H]
theorem mkS_hset (s : St) (t : List AV) (H : List Ent) (hl : s.B.length ≤ H.length) (b : Nat) (e : Ent) : hset (mkS s t H) b e = mkS s t (H.set b e) := by
  have hB : (mkS s t H).B.length = s.B.length := by simp [mkS]; omega
  unfold hset
  rw [hB]
  unfold mkS
  by_cases hb : b < s.B.length
  · rw [if_pos hb]
    simp only [St.mk.injEq, true_and]
    exact ⟨(List.take_set ..).symm, by rw [List.drop_set_of_lt hb]⟩
  · rw [if_neg hb]
    simp only [St.mk.injEq, true_and]
    refine ⟨by rw [List.take_set_of_le (by omega)], ?_⟩
    rw [List.drop_set, if_neg hb]
def wt (l : List COp) (avs : List AV) (k : Nat) : Option (Nat × AV) := ((l[k]?).bind (·.dst)).map fun d => (d, avs.getD k .any)
def wh (hus : List (Option (Nat × Ent))) (k : Nat) : Option (Nat × Ent) := (hus[k]?).getD none
/-- Behind the operations of D. -/
def atD (s : St) (l : List COp) (avs : List AV) (hus : List (Option (Nat × Ent))) (D : Nat → Bool) (n : Nat) : St := mkS s (wtab (wt l avs) D s.t n) (wtab (wh hus) D (s.B ++ s.L) n)
theorem atD_B (s : St) (l : List COp) (avs : List AV) (hus : List (Option (Nat × Ent))) (D : Nat → Bool) (n : Nat) : (atD s l avs hus D n).B.length = s.B.length := by
  simp [atD, mkS, wtab_length]
theorem atD_step {s : St} {l : List COp} {avs : List AV} {hus : List (Option (Nat × Ent))} {D D' : Nat → Bool} {n i : Nat} {c : COp} {av : AV} {hu : Option (Nat × Ent)} (hc : l[i]? = some c) (hav : avs[i]? = some av) (hhu : hus[i]? = some hu)
    (ht : wtab (wt l avs) D' s.t n = wset (wt l avs i) (wtab (wt l avs) D s.t n))
    (hh : wtab (wh hus) D' (s.B ++ s.L) n = wset (wh hus i) (wtab (wh hus) D (s.B ++ s.L) n)) :
    atD s l avs hus D' n = (happ (atD s l avs hus D n) hu).put c.dst av := by
  have e1 : wt l avs i = c.dst.map fun d => (d, av) := by
    simp only [wt, hc, Option.bind_some, List.getD_eq_getElem?_getD, hav, Option.getD_some]
  have e2 : wh hus i = hu := by simp only [wh, hhu, Option.getD_some]
  unfold atD
  rw [ht, hh, e1, e2]
  cases hu with
  | none =>
    cases c.dst with
    | none => rfl
    | some d => rfl
  | some x =>
    obtain ⟨b, e⟩ := x
    simp only [happ]
    rw [mkS_hset _ _ _ (by simp [wtab_length])]
    cases c.dst with
    | none => rfl
    | some d => rfl

theorem flatX_vals {l0 : List COp} {s0 : St} {K : St → Prop} : ∀ (l pre : List COp) (avs0 : List AV) (hus0 : List (Option (Nat × Ent))), l0 = pre ++ l → avs0.length = pre.length → hus0.length = pre.length →
    aFlatX P l (atD s0 l0 avs0 hus0 (fun _ => true) pre.length) K →
    ∃ (avs : List AV) (hus : List (Option (Nat × Ent))), (∃ more, avs = avs0 ++ more) ∧ (∃ more, hus = hus0 ++ more) ∧ avs.length = l0.length ∧ hus.length = l0.length ∧ K (atD s0 l0 avs hus (fun _ => true) l0.length) ∧
      ∀ i c, pre.length ≤ i → l0[i]? = some c → ∃ av hu, avs[i]? = some av ∧ hus[i]? = some hu ∧ StepX P c (atD s0 l0 avs hus (fun _ => true) i) av hu
  | [], pre, avs0, hus0, he, hl, hl2, h => by
    simp only [List.append_nil] at he
    subst he
    exact ⟨avs0, hus0, ⟨[], by simp⟩, ⟨[], by simp⟩, hl, hl2, h, fun i c hi hc => by have := (List.getElem?_eq_some_iff.1 hc).1; omega⟩
  | c :: l, pre, avs0, hus0, he, hl, hl2, h => by
    obtain ⟨av, hu, h1, h2⟩ := h
    have hgrow : ∀ (more : List AV) (more2 : List (Option (Nat × Ent))) (n : Nat), n ≤ pre.length → atD s0 l0 (avs0 ++ more) (hus0 ++ more2) (fun _ => true) n = atD s0 l0 avs0 hus0 (fun _ => true) n := fun more more2 n hn => by
      have g1 : ∀ j, j ≤ pre.length → wtab (wt l0 (avs0 ++ more)) (fun _ => true) s0.t j = wtab (wt l0 avs0) (fun _ => true) s0.t j := fun j => by
        induction j with
        | zero => intro _; rfl
        | succ j ih =>
          intro hj
          have e : wt l0 (avs0 ++ more) j = wt l0 avs0 j := by
            simp only [wt, List.getD_eq_getElem?_getD]
            rw [List.getElem?_append_left (by omega)]
          simp only [wtab, ih (by omega), e]
      have g2 : ∀ j, j ≤ pre.length → wtab (wh (hus0 ++ more2)) (fun _ => true) (s0.B ++ s0.L) j = wtab (wh hus0) (fun _ => true) (s0.B ++ s0.L) j := fun j => by
        induction j with
        | zero => intro _; rfl
        | succ j ih =>
          intro hj
          have e : wh (hus0 ++ more2) j = wh hus0 j := by
            simp only [wh]
            rw [List.getElem?_append_left (by omega)]
          simp only [wtab, ih (by omega), e]
      unfold atD
      rw [g1 n hn, g2 n hn]
    have hc : l0[pre.length]? = some c := by rw [he]; simp
    have hav : (avs0 ++ [av])[pre.length]? = some av := by rw [← hl]; simp
    have hhu : (hus0 ++ [hu])[pre.length]? = some hu := by rw [← hl2]; simp
    have hst : (happ (atD s0 l0 avs0 hus0 (fun _ => true) pre.length) hu).put c.dst av = atD s0 l0 (avs0 ++ [av]) (hus0 ++ [hu]) (fun _ => true) (pre ++ [c]).length := by
      have e : (pre ++ [c]).length = pre.length + 1 := by simp
      rw [e, ← hgrow [av] [hu] pre.length (Nat.le_refl _)]
      have := atD_step (s := s0) (D := fun k => decide (k < pre.length)) (D' := fun k => decide (k < pre.length + 1)) (n := pre.length + 1) hc hav hhu ?_ ?_
      · have t1 : atD s0 l0 (avs0 ++ [av]) (hus0 ++ [hu]) (fun k => decide (k < pre.length + 1)) (pre.length + 1) = atD s0 l0 (avs0 ++ [av]) (hus0 ++ [hu]) (fun _ => true) (pre.length + 1) := by
          unfold atD
          rw [wtab_lt (i := pre.length + 1) _ (Nat.le_refl _), wtab_lt (i := pre.length + 1) _ (Nat.le_refl _)]
        have t2 : atD s0 l0 (avs0 ++ [av]) (hus0 ++ [hu]) (fun k => decide (k < pre.length)) (pre.length + 1) = atD s0 l0 (avs0 ++ [av]) (hus0 ++ [hu]) (fun _ => true) pre.length := by
          unfold atD
          rw [wtab_lt (i := pre.length) (pre.length + 1) (by omega), wtab_lt (i := pre.length) (pre.length + 1) (by omega)]
        rw [← t1, ← t2]; exact this.symm
      · exact wtab_more (D := fun k => decide (k < pre.length)) (D' := fun k => decide (k < pre.length + 1)) (i := pre.length) (by simp) (fun k => by
          by_cases h1 : k < pre.length
          · have h2 : k < pre.length + 1 := by omega
            simp [h1, h2]
          · by_cases h2 : k = pre.length
            · subst h2; simp
            · have h3 : ¬ k < pre.length + 1 := by omega
              simp [h1, h2, h3]) (pre.length + 1) (by omega) (fun k hk hk2 => by omega)
      · exact wtab_more (D := fun k => decide (k < pre.length)) (D' := fun k => decide (k < pre.length + 1)) (i := pre.length) (by simp) (fun k => by
          by_cases h1 : k < pre.length
          · have h2 : k < pre.length + 1 := by omega
            simp [h1, h2]
          · by_cases h2 : k = pre.length
            · subst h2; simp
            · have h3 : ¬ k < pre.length + 1 := by omega
              simp [h1, h2, h3]) (pre.length + 1) (by omega) (fun k hk hk2 => by omega)
    rw [hst] at h2
    obtain ⟨avs, hus, ⟨more, hm⟩, ⟨more2, hm2⟩, g2, g3, g4, g5⟩ := flatX_vals l (pre ++ [c]) (avs0 ++ [av]) (hus0 ++ [hu]) (by rw [he]; simp) (by simp [hl]) (by simp [hl2]) h2
    refine ⟨avs, hus, ⟨av :: more, by rw [hm]; simp⟩, ⟨hu :: more2, by rw [hm2]; simp⟩, g2, g3, g4, fun i c' hi hc' => ?_⟩
    by_cases hip : i = pre.length
    · subst hip
      rw [hc] at hc'
      cases hc'
      refine ⟨av, hu, by rw [hm, ← hl]; simp, by rw [hm2, ← hl2]; simp, ?_⟩
      have e : atD s0 l0 avs hus (fun _ => true) pre.length = atD s0 l0 avs0 hus0 (fun _ => true) pre.length := by
        have := hgrow (av :: more) (hu :: more2) pre.length (Nat.le_refl _)
        rw [← this, hm, hm2]; simp
      rw [e]; exact h1
    · exact g5 i c' (by simp; omega) hc'
end

/-! ### All orders -/
def cnt (D : Nat → Bool) : Nat → Nat
  | 0 => 0
  | n + 1 => cnt D n + (if D n then 0 else 1)
theorem cnt_ext {D D' : Nat → Bool} : ∀ n, (∀ k, k < n → D k = D' k) → cnt D n = cnt D' n
  | 0, _ => rfl
  | n + 1, h => by simp only [cnt, h n (by omega), cnt_ext n fun k hk => h k (by omega)]
theorem cnt_more {D D' : Nat → Bool} {i : Nat} (hD : D i = false) (hD' : ∀ k, D' k = (D k || k == i)) : ∀ n, i < n → cnt D n = cnt D' n + 1
  | 0, h => by omega
  | n + 1, h => by
    by_cases hin : i = n
    · subst hin
      have e1 : D' i = true := by rw [hD']; simp
      have e2 : cnt D i = cnt D' i := cnt_ext i fun k hk => by
        rw [hD']
        have : (k == i) = false := by simp; omega
        simp [this]
      simp [cnt, e1, hD, e2]
    · have ih := cnt_more hD hD' n (by omega)
      have e1 : D' n = D n := by
        rw [hD']
        have : (n == i) = false := by simp; omega
        simp [this]
      simp only [cnt, e1]; omega
theorem cnt_zero {D : Nat → Bool} : ∀ n, cnt D n = 0 → ∀ k, k < n → D k = true
  | 0, _, k, hk => by omega
  | n + 1, h, k, hk => by
    simp only [cnt] at h
    have hn : D n = true := by
      cases hd : D n with
      | true => rfl
      | false => rw [hd] at h; simp at h
    by_cases hkn : k = n
    · subst hkn; exact hn
    · exact cnt_zero n (by omega) k (by omega)
theorem cnt_all {D : Nat → Bool} : ∀ n, (∀ k, k < n → D k = false) → cnt D n = n
  | 0, _ => rfl
  | n + 1, h => by simp [cnt, h n (by omega), cnt_all n fun k hk => h k (by omega)]
section
variable {P : Program} {own : Nat}
theorem getD_set_is {listed : Array Bool} {i : Nat} (hi : i < listed.size) (k : Nat) : (listed.setIfInBounds i true).getD k false = (listed.getD k false || k == i) := by
  by_cases hki : k = i
  · subst hki
    simp [hi]
  · have : (k == i) = false := by simp [hki]
    rw [this, Bool.or_false]
    exact getD_set_ne false (Ne.symm hki)
theorem mapM_at {ops : Array Oper} {l : List COp} (hl : ops.toList.mapM (cOper P own ops) = some l) : l.length = ops.size ∧ ∀ (i : Nat) (c : COp), l[i]? = some c → ∃ o, ops[i]? = some o ∧ cOper P own ops o = some c := by
  have key : ∀ (xs : List Oper) (ys : List COp), xs.mapM (cOper P own ops) = some ys → ys.length = xs.length ∧ ∀ (i : Nat) (c : COp), ys[i]? = some c → ∃ o, xs[i]? = some o ∧ cOper P own ops o = some c := fun xs => by
    induction xs with
    | nil => intro ys h; simp at h; subst h; exact ⟨rfl, fun i c h => by simp at h⟩
    | cons x xs ih =>
      intro ys h
      rw [List.mapM_cons] at h
      simp only [Option.bind_eq_bind, Option.bind_eq_some_iff, Option.pure_def, Option.some.injEq] at h
      obtain ⟨c, hc, r, hr, rfl⟩ := h
      obtain ⟨h1, h2⟩ := ih r hr
      refine ⟨by simp [h1], fun i d hd => ?_⟩
      cases i with
      | zero => simp at hd; subst hd; exact ⟨x, rfl, hc⟩
      | succ i => simpa using h2 i d (by simpa using hd)
  obtain ⟨h1, h2⟩ := key _ _ hl
  exact ⟨by simpa using h1, fun i c hc => by obtain ⟨o, ho, hc⟩ := h2 i c hc; exact ⟨o, by simpa using ho, hc⟩⟩

/-! ### One operation -/
theorem stepA_sound {C : Cx} {a : Act} {s : St} (hs : StRel C a s) {ops : Array Oper} {o : Oper} {c : COp} (hc : cOper P own ops o = some c) {av : AV} (h : StepA P c s av) {Q : Exit → Act → World → Prop} {next : Act → World → Prop}
    (hK : ∀ C' a', Nxt C C' → StRel C' a' (s.put c.dst av) → next a' C'.w) : if Region.wanted o (yielded ops a.tmps) then o.wp P a C.w next Q ∨ (o.asks P a C.w ∧ LetsOut Q) else next (a.put o.dst undef) C.w := by
  unfold StepA at h
  split at h
  · rename_i f args hop
    have hc0 := hc
    simp only [cOper, Option.bind_eq_some_iff, Option.map_eq_some_iff] at hc
    obtain ⟨mop, hm, g, hg, rfl⟩ := hc
    simp only at hop h hK
    subst hop
    obtain ⟨cl, fo, ho', hcal, hfo, hargs⟩ := cOp_call hm
    obtain ⟨gb, hgv, r, rfl, hcall⟩ := h
    rw [gval_wanted hs hg hgv]
    cases gb
    · simp only [Bool.false_eq_true, if_false]
      cases g with
      | none => cases hgv
      | some g => exact hK C _ (Nxt.refl C) (hs.put (av := .when false r) ⟨(fun h => by cases h), fun _ => rfl⟩)
    · simp only [if_true]
      obtain ⟨F, as, hce, hcd, hA⟩ := hcall rfl
      obtain ⟨vals, hv, hrun⟩ := callee_run hs ho' hcal hfo hargs hce hcd hA.1
      refine .inl ?_
      unfold Oper.wp
      rw [hrun]
      refine (hA.2 C vals hs.hh hs.h hv).mono fun e w'' ⟨v, C', r', he, hw, hn, hh, hrel, hr, hH⟩ => ?_
      subst he; subst hw; subst hr
      have hs' : StRel C' a s := ⟨hH, hh, RelL.nxt hn hs.t, hs.d⟩
      cases g with
      | none => exact hK C' _ hn (hs'.put hrel)
      | some g => exact hK C' _ hn (hs'.put (av := .when true r') ⟨fun _ => hrel, (fun h => by cases h)⟩)
  · rcases h.2 with ⟨p, hr, hp⟩ | ⟨hgf, he⟩
    · have := runOne_sound hs hc hr hp (Q := Q) (next := next) hK
      split
      · rename_i hw; rw [if_pos hw] at this; exact .inl this
      · rename_i hw; rw [if_neg hw] at this; exact this
    · have hc1 := hc
      simp only [cOper, Option.bind_eq_some_iff, Option.map_eq_some_iff] at hc1
      obtain ⟨mop, _, g, hg, rfl⟩ := hc1
      rw [gval_wanted hs hg hgf]
      simp only [Bool.false_eq_true, if_false]
      refine hK C _ (Nxt.refl C) ?_
      rw [he]
      exact hs.put (av := .when false (.c (.sc undef))) ⟨(fun h => by cases h), fun _ => rfl⟩


theorem stepX_sound {C : Cx} {a : Act} {s : St} (hs : StRel C a s) {ops : Array Oper} {o : Oper} {c : COp} (hc : cOper P own ops o = some c) {av : AV} {hu : Option (Nat × Ent)} (h : StepX P c s av hu) {Q : Exit → Act → World → Prop} {next : Act → World → Prop}
    (hK : ∀ C' a', Nxt C C' → StRel C' a' ((happ s hu).put c.dst av) → next a' C'.w) : if Region.wanted o (yielded ops a.tmps) then o.wp P a C.w next Q ∨ (o.asks P a C.w ∧ LetsOut Q) else next (a.put o.dst undef) C.w := by
  rcases h with ⟨_, rfl, h⟩ | ⟨_, n, x, v, b, i, off, e, p, sz, rows, rows', _, rfl, _, _, _, hr, hp⟩
  · exact stepA_sound hs hc h hK
  · have := runOne_sound hs hc hr hp (Q := Q) (next := next) hK
    split
    · rename_i hw; rw [if_pos hw] at this; exact .inl this
    · rename_i hw; rw [if_neg hw] at this; exact this

theorem regX_any {C0 : Cx} {ops : Array Oper} {l : List COp} {avs : List AV} {hus : List (Option (Nat × Ent))} {s : St} {n : Nat} {Q : Exit → Act → World → Prop} (hl : ∀ (i : Nat) (c : COp), l[i]? = some c → ∃ o, ops[i]? = some o ∧ cOper P own ops o = some c) (hlen : l.length = ops.size)
    (hn : n ≤ ops.size) (hp : pairsB ops l n = true) (hb : backB ops n = true) (hchk : chkB s (needsOf ops l n) = true)
    (htail : n < ops.size → Region.sinkB .any ops n = true ∧ Region.chainB .any ops n = true)
    (hstep : ∀ (i : Nat) (c : COp), i < n → l[i]? = some c → ∃ av hu, avs[i]? = some av ∧ hus[i]? = some hu ∧ StepX P c (atD s l avs hus (fun _ => true) i) av hu)
    (hend : ∀ C a, Nxt C0 C → StRel C a (atD s l avs hus (fun _ => true) n) → wpAny P .any ops Q (ops.size - n) (headTrue n ops.size) a C.w) :
    ∀ (m : Nat) (listed : Array Bool) (C : Cx) (a : Act), cnt (fun k => listed.getD k false) n = m → HeadInv .any ops n listed → Nxt C0 C → StRel C a (atD s l avs hus (fun k => listed.getD k false) n) →
      wpAny P .any ops Q (m + (ops.size - n)) listed a C.w := by
  have hpair : ∀ i j, i < j → j < n → ∀ c d, l[i]? = some c → l[j]? = some d → Region.waitsFor .any ops j i = true ∨ (Region.waitsFor .any ops j i = false ∧ apartC c d = true ∧ memB (freeOf l n) c d = true) := fun i j hij hjn c d hc hd => by
    have h1 := List.all_eq_true.1 hp j (List.mem_range.2 hjn)
    have h2 := List.all_eq_true.1 h1 i (List.mem_range.2 hij)
    cases hw : Region.waitsFor .any ops j i with
    | true => exact .inl rfl
    | false =>
      simp only [hc, hd, hw, Bool.false_or, Bool.and_eq_true] at h2
      exact .inr ⟨rfl, h2⟩
  -- what is needed of the slots at the beginning
  have hneed : ∀ i j, i < j → j < n → ∀ c d, l[i]? = some c → l[j]? = some d → Region.waitsFor .any ops j i = false → ∀ u v, (u, v) ∈ pairNeeds c d → ∃ b b' i1 o1 i2 o2, s.t.getD u .any = .op b i1 o1 ∧ s.t.getD v .any = .op b' i2 o2 ∧ b ≠ b' := fun i j hij hjn c d hc hd hw u v hm => by
    have hmem : (u, v) ∈ needsOf ops l n := by
      unfold needsOf
      refine List.mem_flatMap.2 ⟨j, List.mem_range.2 hjn, List.mem_flatMap.2 ⟨i, List.mem_range.2 hij, ?_⟩⟩
      rw [hw, if_neg (by simp), hc, hd]
      exact hm
    have h1 := List.all_eq_true.1 hchk (u, v) hmem
    simp only at h1
    split at h1
    · rename_i b i1 o1 b' i2 o2 e1 e2
      exact ⟨b, b', i1, o1, i2, o2, e1, e2, by simpa using h1⟩
    · cases h1
  have hfree : ∀ (D : Nat → Bool) (i u : Nat), i ≤ n → freeOf l n u = true → (atD s l avs hus D i).t.getD u .any = s.t.getD u .any := fun D i u hi hu => by
    show (wtab (wt l avs) D s.t i).getD u .any = _
    have : (wtab (wt l avs) D s.t i)[u]? = (wtab (wt l avs) (fun _ => false) s.t i)[u]? := wtab_get i fun k hk a ha => by
      exfalso
      simp only [wt, Option.map_eq_some_iff, Option.bind_eq_some_iff, Prod.mk.injEq] at ha
      obtain ⟨d, ⟨ck, hck, hd⟩, rfl, _⟩ := ha
      have h1 := List.all_eq_true.1 hu ck (List.mem_of_getElem? (i := k) (by rw [List.getElem?_take_of_lt (by omega)]; exact hck))
      simp [hd] at h1
    have h0 : ∀ j, wtab (wt l avs) (fun _ => false) s.t j = s.t := fun j => by
      induction j with
      | zero => rfl
      | succ j ih => simp only [wtab, Bool.false_eq_true, if_false, ih]
    rw [List.getD_eq_getElem?_getD, this, h0, ← List.getD_eq_getElem?_getD]
  have hwh : ∀ k b e, k < n → wh hus k = some (b, e) → ∃ ck, l[k]? = some ck ∧ stOp ck.op = true ∧ (∃ sz rows, e = .mem sz rows) ∧ (∃ sz rows, (atD s l avs hus (fun _ => true) k).look b = some (.mem sz rows)) ∧
      (∃ nn a v i1 o1, ck.op = .st nn a v ∧ (strip ((atD s l avs hus (fun _ => true) k).ev a)).2 = .op b i1 o1) := fun k b e hk hw => by
    have hlk : k < l.length := by omega
    obtain ⟨av, hu, _, h2, h3⟩ := hstep k l[k] hk (by simp [hlk])
    have : hu = some (b, e) := by simpa [wh, h2] using hw
    subst this
    rcases h3 with ⟨_, h, _⟩ | ⟨_, nn, a, v, b', i1, o1, e', p, sz, rows, rows', hop, h, hx, hl', he, _, _⟩
    · cases h
    · cases h
      exact ⟨l[k], by simp [hlk], by rw [hop]; rfl, ⟨sz, rows', he⟩, ⟨sz, rows, hl'⟩, nn, a, v, i1, o1, hop, hx⟩
  have hkind0 : ∀ m, m ≤ n → ∀ k, k < m → ∀ (b : Nat) (e : Ent), wh hus k = some (b, e) → (∃ sz rows, e = Ent.mem sz rows) ∧ ∃ sz rows, (s.B ++ s.L)[b]? = some (Ent.mem sz rows) := by
    intro m
    induction m with
    | zero => intro _ k hk; omega
    | succ m ih =>
      intro hm k hk b e hw
      by_cases hkm : k < m
      · exact ih (by omega) k hkm b e hw
      · have : k = m := by omega
        subst this
        obtain ⟨ck, _, _, h1, h2, _⟩ := hwh k b e (by omega) hw
        refine ⟨h1, ?_⟩
        have h3 : (∃ sz rows, (wtab (wh hus) (fun _ => true) (s.B ++ s.L) k)[b]? = some (Ent.mem sz rows)) := by
          obtain ⟨sz, rows, h2⟩ := h2
          refine ⟨sz, rows, ?_⟩
          rw [← mkS_look s (wtab (wt l avs) (fun _ => true) s.t k)]
          exact h2
        exact (wtab_kind k (ih (by omega)) b).1 h3
  have hkind := hkind0 n (Nat.le_refl _)
  intro m
  induction m with
  | zero =>
    intro listed C a hm inv hnx hs
    have hall := cnt_zero n hm
    have e1 : listed = headTrue n ops.size := by
      apply Array.ext
      · simp [headTrue, inv.size]
      · intro i h1 h2
        have hi : i < ops.size := by rw [← inv.size]; exact h1
        have e : (headTrue n ops.size)[i] = decide (i < n) := by simp [headTrue]
        rw [e]
        by_cases hin : i < n
        · have := hall i hin
          simp [h1] at this
          simp [hin, this]
        · have := inv.tail i (by omega) hi
          simp [h1] at this
          simp [hin, this]
    rw [Nat.zero_add, e1]
    refine hend C a hnx ?_
    have e1 : wtab (wt l avs) (fun k => listed.getD k false) s.t n = wtab (wt l avs) (fun _ => true) s.t n := wtab_ext n fun k hk _ => hall k hk
    have e2 : wtab (wh hus) (fun k => listed.getD k false) (s.B ++ s.L) n = wtab (wh hus) (fun _ => true) (s.B ++ s.L) n := wtab_ext n fun k hk _ => hall k hk
    unfold atD at hs ⊢
    rw [← e1, ← e2]; exact hs
  | succ m ih =>
    intro listed C a hm inv hnx hs
    rw [show m + 1 + (ops.size - n) = (m + (ops.size - n)) + 1 by omega]
    -- somebody is ready
    have hsome : ∀ k, k < n → listed.getD k false = false → Region.ready .any ops listed ≠ [] := by
      intro k
      induction k using Nat.strongRecOn with
      | ind k ihk =>
        intro hk hun
        have hks : k < ops.size := by omega
        have h1 := List.all_eq_true.1 hb k (List.mem_range.2 hk)
        have ho : ops[k]? = some ops[k] := by simp [hks]
        simp only [ho] at h1
        rw [Array.all_eq_true'] at h1
        by_cases hx : ∀ e ∈ ops[k].after, Region.binds .any e = true → listed.getD e.on false = true
        · have : k ∈ Region.ready .any ops listed := mem_ready.2 ⟨getD_in (by rw [inv.size]; exact hks) hun, ops[k], ho, hx⟩
          intro h0
          rw [h0] at this; cases this
        · have ⟨e, hx⟩ := Classical.not_forall.1 hx
          have ⟨he, hx⟩ := Classical.not_imp.1 hx
          have ⟨hbd, hx⟩ := Classical.not_imp.1 hx
          have h2 := h1 e he
          simp only [hbd, Bool.not_true, Bool.false_or, decide_eq_true_eq] at h2
          exact ihk e.on h2 (by omega) (by simpa using hx)
    refine ⟨fun h0 => ?_, fun i hi => ?_⟩
    · exfalso
      have hex : ∃ k, k < n ∧ listed.getD k false = false := by
        refine Classical.byContradiction fun hno => ?_
        have hall : ∀ k, k < n → listed.getD k false = true := fun k hk => by
          cases hd : listed.getD k false with
          | true => rfl
          | false => exact absurd ⟨k, hk, hd⟩ hno
        have : cnt (fun k => listed.getD k false) n = 0 := by
          have : ∀ j, j ≤ n → cnt (fun k => listed.getD k false) j = 0 := fun j => by
            induction j with
            | zero => intro _; rfl
            | succ j ihj => intro hj; simp only [cnt, ihj (by omega), hall j (by omega), if_true]
          exact this n (Nat.le_refl _)
        omega
      obtain ⟨k, hk, hun⟩ := hex
      exact hsome k hk hun h0
    · obtain ⟨hun, oi, hoi, hafter⟩ := mem_ready.1 hi
      have hin : i < n := by
        rcases Nat.lt_or_ge i n with h | h
        · exact h
        · exfalso
          have his : i < ops.size := (Array.getElem?_eq_some_iff.1 hoi).1
          have hns : n < ops.size := by omega
          have hex : ∃ k, k < n ∧ listed.getD k false = false := by
            refine Classical.byContradiction fun hno => ?_
            have hall : ∀ k, k < n → listed.getD k false = true := fun k hk => by
              cases hd : listed.getD k false with
              | true => rfl
              | false => exact absurd ⟨k, hk, hd⟩ hno
            have : ∀ j, j ≤ n → cnt (fun k => listed.getD k false) j = 0 := fun j => by
              induction j with
              | zero => intro _; rfl
              | succ j ihj => intro hj; simp only [cnt, ihj (by omega), hall j (by omega), if_true]
            have := this n (Nat.le_refl _)
            omega
          obtain ⟨k, hk, hunk⟩ := hex
          exact tail_waits (htail hns).1 (htail hns).2 hns inv _ k rfl hk (getD_in (by rw [inv.size]; omega) hunk) i h hi
      have his : i < ops.size := by omega
      have hils : i < listed.size := by rw [inv.size]; exact his
      have hcl : ∃ c, l[i]? = some c := ⟨l[i]'(by omega), by simp [hlen, his]⟩
      obtain ⟨c, hc⟩ := hcl
      obtain ⟨o, ho, hco⟩ := hl i c hc
      have : o = oi := Option.some.inj (ho.symm.trans hoi)
      subst this
      obtain ⟨av, hu, hav, hhu, hst⟩ := hstep i c hin hc
      have hunf : listed.getD i false = false := getD_both hun
      have hdst : ∀ (k d : Nat) (a : AV), wt l avs k = some (d, a) → ∃ ck : COp, l[k]? = some ck ∧ ck.dst = some d := fun k d a h => by
        simp only [wt, Option.map_eq_some_iff, Option.bind_eq_some_iff, Prod.mk.injEq] at h
        obtain ⟨d', ⟨ck, h1, h2⟩, rfl, _⟩ := h
        exact ⟨ck, h1, h2⟩
      -- earlier ones that it waits for are done; later ones that wait for it are not
      have hdone : ∀ k, Region.waitsFor .any ops i k = true → listed.getD k false = true := fun k hw => by
        obtain ⟨o', ho', e, he, hbd, hon⟩ := Region.waitsFor_spec hw
        have : o' = o := Option.some.inj (ho'.symm.trans hoi)
        subst this
        have := hafter e he hbd
        rwa [hon] at this
      have hnot : ∀ k, Region.waitsFor .any ops k i = true → listed.getD k false = false := fun k hw => by
        obtain ⟨o', ho', e, he, hbd, hon⟩ := Region.waitsFor_spec hw
        cases hd2 : listed.getD k false with
        | false => rfl
        | true =>
          have := inv.closed k o' ho' hd2 e he hbd
          rw [hon, hunf] at this; cases this
      -- whoever must be ordered with it is as in the order
      have hord : ∀ k, k < n → (∀ ck, l[k]? = some ck → k ≠ i → (k < i → Region.waitsFor .any ops i k = true) ∧ (i < k → Region.waitsFor .any ops k i = true)) → decide (k < i) = listed.getD k false := fun k hk h => by
        have hck : l[k]? = some (l[k]'(by omega)) := by simp [hlen, show k < ops.size by omega]
        by_cases hki : k < i
        · have := hdone k ((h _ hck (by omega)).1 hki)
          simp [hki, this]
        · by_cases hke : k = i
          · subst hke; simp [hunf]
          · have := hnot k ((h _ hck hke).2 (by omega))
            simp [hki, this]
      have hreads : ∀ t ∈ readsOf c, (atD s l avs hus (fun _ => true) i).t.getD t .any = (atD s l avs hus (fun k => listed.getD k false) n).t.getD t .any := fun t ht => by
        show (wtab (wt l avs) (fun _ => true) s.t i).getD t .any = (wtab (wt l avs) (fun k => listed.getD k false) s.t n).getD t .any
        rw [wtab_lt n (by omega)]
        have := wtab_get (w := wt l avs) (D := fun k => decide (k < i)) (D' := fun k => listed.getD k false) (t := s.t) (x := t) n fun k hk a ha => by
          obtain ⟨ck, hck, hckd⟩ := hdst k t a ha
          refine hord k hk fun ck' hck' hne => ?_
          rw [hck] at hck'; cases hck'
          refine ⟨fun hki => ?_, fun hik => ?_⟩
          · rcases hpair k i hki hin ck c hck hc with hw | ⟨_, hap, _⟩
            · exact hw
            · exfalso
              simp only [apartC, hckd, Bool.and_eq_true] at hap
              have := hap.1.1
              simp at this
              exact this ht
          · rcases hpair i k hik hk c ck hc hck with hw | ⟨_, hap, _⟩
            · exact hw
            · exfalso
              simp only [apartC, hckd, Bool.and_eq_true] at hap
              have := hap.1.2
              simp at this
              exact this ht
        rw [List.getD_eq_getElem?_getD, this, ← List.getD_eq_getElem?_getD]
      -- an operation that reads memory and has no slot for its address is ordered with all stores
      have hseq : (blindOp c.op = false) → addrSlot c.op = none → wtab (wh hus) (fun _ => true) (s.B ++ s.L) i = wtab (wh hus) (fun k => listed.getD k false) (s.B ++ s.L) n := fun hbl had => by
        rw [wtab_lt n (by omega)]
        refine wtab_ext n fun k hk hne => ?_
        cases hwk : wh hus k with
        | none => exact absurd hwk hne
        | some x =>
          obtain ⟨b, e⟩ := x
          obtain ⟨ck, hck, hst', _⟩ := hwh k b e hk hwk
          refine hord k hk fun ck' hck' hne => ?_
          rw [hck] at hck'; cases hck'
          refine ⟨fun hki => ?_, fun hik => ?_⟩
          · rcases hpair k i hki hin ck c hck hc with hw | ⟨_, _, hmb⟩
            · exact hw
            · exfalso
              unfold memB at hmb
              rw [if_pos (by simp [hst', hbl]), had] at hmb
              cases addrSlot ck.op <;> simp at hmb
          · rcases hpair i k hik hk c ck hc hck with hw | ⟨_, _, hmb⟩
            · exact hw
            · exfalso
              unfold memB at hmb
              rw [if_pos (by simp [hst', hbl]), had] at hmb
              cases addrSlot ck.op <;> simp at hmb
      -- a block to which a slot leads
      have hlook : ∀ (v : Nat) (b i1 o1 : Nat), blindOp c.op = false → addrSlot c.op = some v → (strip ((atD s l avs hus (fun _ => true) i).ev (.tmp v))).2 = .op b i1 o1 →
          (atD s l avs hus (fun k => listed.getD k false) n).look b = (atD s l avs hus (fun _ => true) i).look b := fun v b i1 o1 hbl had hx => by
        unfold atD
        rw [mkS_look, mkS_look]
        rw [wtab_lt (w := wh hus) n (show i ≤ n by omega)]
        refine (wtab_get n fun k hk e hwk => ?_).symm
        obtain ⟨ck, hck, hst', _, _, nn, a', v', i2, o2, hop, hxk⟩ := hwh k b e hk hwk
        -- two slots of which one leads to b cannot both
        have clash : ∀ u w', freeOf l n u = true → freeOf l n v = true → a' = .tmp u → (∃ b1 b2 j1 p1 j2 p2, s.t.getD u .any = .op b1 j1 p1 ∧ s.t.getD v .any = .op b2 j2 p2 ∧ b1 ≠ b2) → (w' : False → False) = (w' : False → False) → False := fun u w' hfu hfv ha' hdiff _ => by
          obtain ⟨b1, b2, j1, p1, j2, p2, e1, e2, hne⟩ := hdiff
          subst ha'
          have f1 := hfree (fun _ => true) k u (by omega) hfu
          have f2 := hfree (fun _ => true) i v (by omega) hfv
          have g1 : (atD s l avs hus (fun _ => true) k).ev (.tmp u) = .op b1 j1 p1 := by show (atD s l avs hus (fun _ => true) k).t.getD u .any = _; rw [f1, e1]
          have g2 : (atD s l avs hus (fun _ => true) i).ev (.tmp v) = .op b2 j2 p2 := by show (atD s l avs hus (fun _ => true) i).t.getD v .any = _; rw [f2, e2]
          rw [g1] at hxk
          rw [g2] at hx
          simp only [strip, AV.op.injEq] at hxk hx
          exact hne (hxk.1.trans hx.1.symm)
        refine hord k hk fun ck' hck' hne => ?_
        rw [hck] at hck'; cases hck'
        have had2 : ∀ u, addrSlot ck.op = some u → a' = .tmp u := fun u hu => by
          rw [hop] at hu
          cases a' with
          | tmp t => simp only [addrSlot, Option.some.injEq] at hu; rw [hu]
          | cst x => simp [addrSlot] at hu
        refine ⟨fun hki => ?_, fun hik => ?_⟩
        · rcases hpair k i hki hin ck c hck hc with hw | ⟨hnw, _, hmb⟩
          · exact hw
          · exfalso
            unfold memB at hmb
            rw [if_pos (by simp [hst', hbl]), had] at hmb
            cases hu : addrSlot ck.op with
            | none => rw [hu] at hmb; simp at hmb
            | some u =>
              rw [hu] at hmb
              simp only [Bool.and_eq_true] at hmb
              have hpn : (u, v) ∈ pairNeeds ck c := by
                unfold pairNeeds
                rw [if_pos (by simp [hst', hbl]), had, hu]; simp
              obtain ⟨b1, b2, j1, p1, j2, p2, q⟩ := hneed k i hki hin ck c hck hc hnw u v hpn
              exact clash u id hmb.1 hmb.2 (had2 u hu) ⟨b1, b2, j1, p1, j2, p2, q⟩ rfl
        · rcases hpair i k hik hk c ck hc hck with hw | ⟨hnw, _, hmb⟩
          · exact hw
          · exfalso
            unfold memB at hmb
            rw [if_pos (by simp [hst', hbl]), had] at hmb
            cases hu : addrSlot ck.op with
            | none => rw [hu] at hmb; simp at hmb
            | some u =>
              rw [hu] at hmb
              simp only [Bool.and_eq_true] at hmb
              have hpn : (v, u) ∈ pairNeeds c ck := by
                unfold pairNeeds
                rw [if_pos (by simp [hst', hbl]), had, hu]; simp
              obtain ⟨b1, b2, j1, p1, j2, p2, q1, q2, q3⟩ := hneed i k hik hk c ck hc hck hnw v u hpn
              exact clash u id hmb.2 hmb.1 (had2 u hu) ⟨b2, b1, j2, p2, j1, p1, q2, q1, Ne.symm q3⟩ rfl
      have hBl : (atD s l avs hus (fun k => listed.getD k false) n).B.length = (atD s l avs hus (fun _ => true) i).B.length := by rw [atD_B, atD_B]
      have htl : (atD s l avs hus (fun k => listed.getD k false) n).t.length = (atD s l avs hus (fun _ => true) i).t.length := by
        show (wtab _ _ _ _).length = (wtab _ _ _ _).length
        rw [wtab_length, wtab_length]
      have hst2 : StepX P c (atD s l avs hus (fun k => listed.getD k false) n) av hu := by
        rcases hst with ⟨h1, h2, h3⟩ | ⟨hg, nn, a', v', b, i1, o1, e, p, sz, rows, rows', hop, h2, hx, hlk, he, hr, hpp⟩
        · refine .inl ⟨h1, h2, h3.congr ⟨hBl, ?_⟩ htl hreads⟩
          have hseqS : blindOp c.op = false → addrSlot c.op = none → (atD s l avs hus (fun k => listed.getD k false) n).B = (atD s l avs hus (fun _ => true) i).B ∧ (atD s l avs hus (fun k => listed.getD k false) n).L = (atD s l avs hus (fun _ => true) i).L := fun x y => by
            have := hseq x y
            unfold atD mkS
            rw [this]
            exact ⟨rfl, rfl⟩
          have hlkS : blindOp c.op = false → addrSlot c.op = none → (atD s l avs hus (fun k => listed.getD k false) n).look = (atD s l avs hus (fun _ => true) i).look := fun x y => by
            obtain ⟨q1, q2⟩ := hseqS x y
            funext b'
            simp only [St.look, q1, q2]
          have hkS : KindEq (atD s l avs hus (fun _ => true) i) (atD s l avs hus (fun k => listed.getD k false) n) := by
            have hk1 := fun b' => wtab_kind (w := wh hus) (D := fun _ => true) (t := s.B ++ s.L) i (fun k hk => hkind k (by omega)) b'
            have hk2 := fun b' => wtab_kind (w := wh hus) (D := fun k => listed.getD k false) (t := s.B ++ s.L) n hkind b'
            refine ⟨⟨hBl, fun b' => ?_⟩, fun b' => ?_⟩
            · unfold atD
              rw [mkS_look, mkS_look]
              have nomem : ∀ z : Option Ent, (∃ sz rows, z = some (.mem sz rows)) → growOf z = none := fun z ⟨_, _, hz⟩ => by rw [hz]; rfl
              by_cases hm : ∃ sz rows, (s.B ++ s.L)[b']? = some (Ent.mem sz rows)
              · rw [nomem _ ((hk1 b').2 hm), nomem _ ((hk2 b').2 hm)]
              · have f0 : ∀ j, wtab (wh hus) (fun _ => false) (s.B ++ s.L) j = s.B ++ s.L := fun j => by
                  induction j with
                  | zero => rfl
                  | succ j ih => simp only [wtab, Bool.false_eq_true, if_false, ih]
                have f1 := wtab_get (w := wh hus) (D := fun _ => true) (D' := fun _ => false) (t := s.B ++ s.L) (x := b') i fun k hk e he => absurd (hkind k (by omega) b' e he).2 hm
                have f2 := wtab_get (w := wh hus) (D := fun k => listed.getD k false) (D' := fun _ => false) (t := s.B ++ s.L) (x := b') n fun k hk e he => absurd (hkind k hk b' e he).2 hm
                rw [f1, f2, f0, f0]
            · unfold atD
              rw [mkS_look, mkS_look]
              exact (hk1 b').trans (hk2 b').symm
          have hld : ∀ x, addrSlot c.op = (match x with | .tmp u => some u | .cst _ => none) → blindOp c.op = false → ∀ b i off, (strip ((atD s l avs hus (fun _ => true) i).ev x)).2 = .op b i off → True := fun _ _ _ _ _ _ _ => trivial
          cases hop : c.op <;> simp only [hop] at h1 hseqS hlkS hlook hkS ⊢
          case call f args => exact hseqS rfl rfl
          case ldc x =>
            cases x with
            | cst y => exact fun b i off _ => congrFun (hlkS rfl rfl) b
            | tmp u => exact fun b i1 off hx => hlook u b i1 off rfl rfl hx
          case lda nn x =>
            cases x with
            | cst y => exact fun b i off _ => congrFun (hlkS rfl rfl) b
            | tmp u => exact fun b i1 off hx => hlook u b i1 off rfl rfl hx
          case b2s x => exact hlkS rfl rfl
          case slc => exact hlkS rfl rfl
          case len => exact hlkS rfl rfl
          case iad => exact hlkS rfl rfl
          case bslice ow _ _ _ _ =>
            have : ow = false := by simpa [stillOp] using h1
            subst this
            exact hkS
          all_goals first
            | exact hkS
            | (simp [stillOp, isEff] at h1)
        · refine .inr ⟨hg, nn, a', v', b, i1, o1, e, p, sz, rows, rows', hop, h2, ?_, ?_, he, ?_, hpp⟩
          · have := ev_congr hreads a' (by rw [hop]; simp [opds])
            rw [← this]; exact hx
          · have hlb : (atD s l avs hus (fun k => listed.getD k false) n).look b = (atD s l avs hus (fun _ => true) i).look b := by
              cases a' with
              | tmp u => exact hlook u b i1 o1 (by rw [hop]; rfl) (by rw [hop]; rfl) hx
              | cst y =>
                have := hseq (by rw [hop]; rfl) (by rw [hop]; rfl)
                unfold atD
                rw [mkS_look, mkS_look, this]
            rw [hlb]; exact hlk
          · have hlb : (atD s l avs hus (fun k => listed.getD k false) n).look b = (atD s l avs hus (fun _ => true) i).look b := by
              cases a' with
              | tmp u => exact hlook u b i1 o1 (by rw [hop]; rfl) (by rw [hop]; rfl) hx
              | cst y =>
                have := hseq (by rw [hop]; rfl) (by rw [hop]; rfl)
                unfold atD
                rw [mkS_look, mkS_look, this]
            rcases runOne_st_congr hop hg hr (ev_congr hreads) hBl hx hlb rfl htl with hq | hq
            · exact hq
            · rw [hlk] at hq; cases hq
      unfold wpOp
      simp only [ho]
      refine stepX_sound hs hco hst2 fun C' a' hn' hs' => ?_
      refine ih (listed.setIfInBounds i true) C' a' ?_ (inv.set hi hin) (hnx.trans hn') ?_
      · have := cnt_more (D := fun k => listed.getD k false) (D' := fun k => (listed.setIfInBounds i true).getD k false) hunf (fun k => getD_set_is hils k) n hin
        omega
      · have e := atD_step (s := s) (D := fun k => listed.getD k false) (D' := fun k => (listed.setIfInBounds i true).getD k false) (n := n) hc hav hhu
          (wtab_more (D := fun k => listed.getD k false) (D' := fun k => (listed.setIfInBounds i true).getD k false) hunf (fun k => getD_set_is hils k) n hin fun k hik hkn d a1 b1 hd hd2 => by
            obtain ⟨ci, hci, hcid⟩ := hdst i d a1 hd
            obtain ⟨ck, hck, hckd⟩ := hdst k d b1 hd2
            rcases hpair i k hik hkn ci ck hci hck with hw | ⟨_, hap, _⟩
            · exact hnot k hw
            · exfalso
              simp only [apartC, hcid, hckd, Bool.and_eq_true] at hap
              have := hap.2
              simp at this)
          (wtab_more (D := fun k => listed.getD k false) (D' := fun k => (listed.setIfInBounds i true).getD k false) hunf (fun k => getD_set_is hils k) n hin fun k hik hkn b e1 e2 hw1 hw2 => by
            obtain ⟨ci, hci, hsti, _, _, n1, a1, v1, i1, o1, hop1, hx1⟩ := hwh i b e1 hin hw1
            obtain ⟨ck, hck, hstk, _, _, n2, a2, v2, i2, o2, hop2, hx2⟩ := hwh k b e2 hkn hw2
            rcases hpair i k hik hkn ci ck hci hck with hw | ⟨hnw, _, hmb⟩
            · exact hnot k hw
            · exfalso
              have hb1 : blindOp ck.op = false := by rw [hop2]; rfl
              unfold memB at hmb
              rw [if_pos (by simp [hsti, hb1])] at hmb
              cases hu1 : addrSlot ci.op with
              | none => rw [hu1] at hmb; simp at hmb
              | some u =>
                cases hu2 : addrSlot ck.op with
                | none => rw [hu1, hu2] at hmb; simp at hmb
                | some v =>
                  rw [hu1, hu2] at hmb
                  simp only [Bool.and_eq_true] at hmb
                  have hpn : (u, v) ∈ pairNeeds ci ck := by
                    unfold pairNeeds
                    rw [if_pos (by simp [hsti, hb1]), hu1, hu2]; simp
                  obtain ⟨b1, b2, j1, p1, j2, p2, q1, q2, q3⟩ := hneed i k hik hkn ci ck hci hck hnw u v hpn
                  have ha1 : a1 = .tmp u := by
                    rw [hop1] at hu1
                    cases a1 with
                    | tmp t => simp only [addrSlot, Option.some.injEq] at hu1; rw [hu1]
                    | cst x => simp [addrSlot] at hu1
                  have ha2 : a2 = .tmp v := by
                    rw [hop2] at hu2
                    cases a2 with
                    | tmp t => simp only [addrSlot, Option.some.injEq] at hu2; rw [hu2]
                    | cst x => simp [addrSlot] at hu2
                  subst ha1; subst ha2
                  have f1 := hfree (fun _ => true) i u (by omega) hmb.1
                  have f2 := hfree (fun _ => true) k v (by omega) hmb.2
                  have g1 : (atD s l avs hus (fun _ => true) i).ev (.tmp u) = .op b1 j1 p1 := by show (atD s l avs hus (fun _ => true) i).t.getD u .any = _; rw [f1, q1]
                  have g2 : (atD s l avs hus (fun _ => true) k).ev (.tmp v) = .op b2 j2 p2 := by show (atD s l avs hus (fun _ => true) k).t.getD v .any = _; rw [f2, q2]
                  rw [g1] at hx1
                  rw [g2] at hx2
                  simp only [strip, AV.op.injEq] at hx1 hx2
                  exact q3 (hx1.1.trans hx2.1.symm))
        rw [e]; exact hs'

/-- **A region in open order.** -/
theorem wp_regX (hm : P.follows .mixedOrders = true) {id : Nat} {ops : Array Oper} {l : List COp} {n : Nat} (hl : ops.toList.mapM (cOper P own ops) = some l) (hB : regAB ops l n = true) {s : St} {K : St → Prop} (hchk : chkB s (needsOf ops l n) = true) (h : aFlatX P (l.take n) s K) {C : Cx} {a : Act} (hs : StRel C a s)
    {Q : Exit → Act → World → Prop} (hK : ∀ C' a' s', Nxt C C' → s'.B.length = s.B.length → StRel C' a' s' → K s' → wpList P ops Q (ops.toList.drop n) a' C'.w) : (Code.region id ops true).wp P Q a C.w := by
  simp only [regAB, Bool.and_eq_true, decide_eq_true_eq] at hB
  obtain ⟨⟨⟨hn, hp⟩, hb⟩, ht⟩ := hB
  obtain ⟨hlen, hat⟩ := mapM_at hl
  let w1 : World := { C.w with drawn := C.w.drawn + 1 }
  let C1 : Cx := { C with w := w1 }
  have hx : Nxt C C1 := ⟨rfl, rfl, rfl, Nat.le_refl _, fun a v h => h, Nat.le_refl _, fun b sz rows hb _ => ⟨rows, hb, rfl, rfl⟩, fun b sz e rows hb _ => ⟨rows, [], hb, by simp, fun _ => rfl⟩, fun k _ _ => ⟨rfl, rfl⟩, fun _ => rfl, fun b e k hb hk => .inr ⟨e, hb, hk⟩⟩
  have hh1 : HRel C1 := ⟨fun b e hb => by
    have := hs.hh.ent b e hb
    exact this.keep hx rfl (fun k hk => ⟨rfl, rfl⟩), hs.hh.inj⟩
  have hs1 : StRel C1 a s := ⟨hs.h, hh1, RelL.nxt hx hs.t, hs.d⟩
  have htk : (l.take n).length = n := by simp; omega
  obtain ⟨avs, hus, _, _, hav1, hhu1, hav2, hav3⟩ := flatX_vals (l0 := l.take n) (s0 := s) (K := K) (l.take n) [] [] [] (by simp) rfl rfl (by rw [show atD s (l.take n) [] [] (fun _ => true) ([] : List COp).length = s from mkS_self s]; exact h)
  have htab : ∀ i, i ≤ n → atD s (l.take n) avs hus (fun _ => true) i = atD s l avs hus (fun _ => true) i := fun i hi => by
    have g : ∀ j, j ≤ n → wtab (wt (l.take n) avs) (fun _ => true) s.t j = wtab (wt l avs) (fun _ => true) s.t j := fun j => by
      induction j with
      | zero => intro _; rfl
      | succ j ih =>
        intro hj
        have e : wt (l.take n) avs j = wt l avs j := by
          simp only [wt]
          rw [List.getElem?_take_of_lt (by omega)]
        simp only [wtab, ih (by omega), e]
    unfold atD
    rw [g i hi]
  refine wp_region_any hm ?_
  have hcnt : cnt (fun k => (Array.replicate ops.size false).getD k false) n = n := cnt_all n fun k _ => getD_replicate_false _ _
  have key := regX_any (own := own) (C0 := C) (Q := Q) (s := s) (avs := avs) (hus := hus) hat hlen hn hp hb hchk (fun hlt => by
      rw [if_neg (by omega)] at ht
      simp only [Bool.and_eq_true] at ht
      exact ht.1) (fun i c hi hc => by
      obtain ⟨av, hu, h1, h1', h2⟩ := hav3 i c (Nat.zero_le _) (by rw [List.getElem?_take_of_lt hi]; exact hc)
      exact ⟨av, hu, h1, h1', by rw [htab i (by omega)] at h2; exact h2⟩) (fun C' a' hn' hs' => ?_) n (Array.replicate ops.size false) C1 a hcnt
    ⟨by simp, fun j oj _ hl => (by rw [getD_replicate_false] at hl; cases hl), fun t _ ht => getD_in (by simpa using ht) (getD_replicate_false _ _)⟩ hx ?_
  · rw [show n + (ops.size - n) = ops.size by omega] at key
    exact key
  · have hk := hK C' a' (atD s l avs hus (fun _ => true) n) hn' (atD_B ..) hs' (by rw [htk] at hav2; rw [htab n (Nat.le_refl _)] at hav2; exact hav2)
    by_cases hns : n = ops.size
    · subst hns
      rw [List.drop_of_length_le (by simp)] at hk
      rw [Nat.sub_self]
      refine ⟨?_, hk⟩
      refine List.eq_nil_iff_forall_not_mem.2 fun i hi => ?_
      obtain ⟨hun, oi, hoi, _⟩ := mem_ready.1 hi
      have his := (Array.getElem?_eq_some_iff.1 hoi).1
      simp [headTrue, his] at hun
    · rw [if_neg hns] at ht
      simp only [Bool.and_eq_true] at ht
      have := wpAny_of_seq (md := .any) (Q' := Q) (ops.toList.drop n) n (headTrue n ops.size) a' C'.w (fun j => by simp [List.getElem?_drop]) (by simpa using ht.2) hk
      simpa using this
  · have f : ∀ {α : Type} (w : Nat → Option (Nat × α)) (t : List α) (j : Nat), wtab w (fun k => (Array.replicate ops.size false).getD k false) t j = t := fun w t j => by
      induction j with
      | zero => rfl
      | succ j ih =>
        have hf := getD_replicate_false ops.size j
        unfold wtab
        rw [if_neg (by rw [hf]; simp), ih]
    unfold atD
    rw [f, f, mkS_self]
    exact hs1
end
end Go.Den
