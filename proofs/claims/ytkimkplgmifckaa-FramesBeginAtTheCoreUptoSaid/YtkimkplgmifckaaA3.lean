/-
  Part of the proof that FramesBeginAtTheCore returns true: the records of the program and what the functions of frames compute, in plain words.
  No condition.
-/
import Derived.Test.YtkimkplgmifckaaA2
set_option linter.unusedSimpArgs false
set_option linter.unusedVariables false
namespace Go.Den
abbrev BA := ByteArray
def iC (n : Int) : CV := .sc (.int .i64 n)
def wC (n : Int) : CV := .sc (.int .u32 n)
def yC (n : Int) : CV := .sc (.int .u8 n)
def sC (s : ByteArray) : CV := .sc (.string s)
def bC (b : Bool) : CV := .sc (.bool b)

structure Seg where
  addr : Int
  size : Int
  rights : Int
  data : List Int
structure Exp where
  name : ByteArray
  ver : ByteArray
  dflt : Bool
  weak : Bool
  thr : Bool
  addr : Int
  size : Int
structure Imp where
  name : ByteArray
  ver : ByteArray
  weak : Bool
  slot : Int
  copy : Int
  size : Int
structure Fix where
  addr : Int
  kind : Int
  imp : Int
  add : Int
structure LineR where
  off : Int
  file : Int
  line : Int
structure UnwR where
  off : Int
  reg : Int
  add : Int
  saved : Int
structure Fld where
  name : ByteArray
  ty : Int
  off : Int
structure Ty where
  kind : Int
  name : ByteArray
  size : Int
  elem : Int
  count : Int
  flds : List Fld
structure Var where
  name : ByteArray
  addr : Int
  ty : Int
structure Plc where
  addr : Int
  size : Int
  mod : Int
  sec : Int
  off : Int
structure Img where
  name : ByteArray
  shared : Bool
  segs : List Seg
  entry : Int
  exps : List Exp
  imps : List Imp
  fixs : List Fix
  thr : List Int
  thrSize : Int
  inits : List Int
  finis : List Int
  needs : List ByteArray
  id : Int
  lines : List LineR
  unw : List UnwR
  files : List ByteArray
  types : List Ty
  vars : List Var
  places : List Plc
structure Ldd where
  img : Img
  bias : Int
  thr : Int
  uses : Int
structure Pnd where
  addr : Int
  size : Int
  val : Int
structure Pag where
  addr : Int
  rights : Int
  data : List Int
structure Cor where
  regs : List Int
  vecs : List Int
  flags : Int
  pc : Int
  tp : Int
  user : Bool
  stopped : Bool
  handler : Int
  cause : Int
  saved : Int
  buf : List Pnd
structure Prc where
  loaded : List Ldd
  mem : List Pag
  cores : List Cor
  out : List Int
  lzy : Bool

def eI (n : Int) : List CV := [iC n]
def eY (n : Int) : List CV := [yC n]
def eS (s : ByteArray) : List CV := [sC s]
def Seg.e (s : Seg) : List CV := [iC s.addr, iC s.size, iC s.rights, .sl (s.data.map eY)]
def Exp.e (x : Exp) : List CV := [sC x.name, sC x.ver, bC x.dflt, bC x.weak, bC x.thr, iC x.addr, iC x.size]
def Imp.e (x : Imp) : List CV := [sC x.name, sC x.ver, bC x.weak, iC x.slot, iC x.copy, iC x.size]
def Fix.e (x : Fix) : List CV := [iC x.addr, iC x.kind, iC x.imp, iC x.add]
def LineR.e (x : LineR) : List CV := [iC x.off, iC x.file, iC x.line]
def UnwR.e (x : UnwR) : List CV := [iC x.off, iC x.reg, iC x.add, iC x.saved]
def Fld.e (x : Fld) : List CV := [sC x.name, iC x.ty, iC x.off]
def Ty.e (x : Ty) : List CV := [iC x.kind, sC x.name, iC x.size, iC x.elem, iC x.count, .sl (x.flds.map Fld.e)]
def Var.e (x : Var) : List CV := [sC x.name, iC x.addr, iC x.ty]
def Plc.e (x : Plc) : List CV := [iC x.addr, iC x.size, iC x.mod, iC x.sec, iC x.off]
def Img.e (x : Img) : List CV := [sC x.name, bC x.shared, .sl (x.segs.map Seg.e), iC x.entry, .sl (x.exps.map Exp.e), .sl (x.imps.map Imp.e), .sl (x.fixs.map Fix.e), .sl (x.thr.map eY), iC x.thrSize, .sl (x.inits.map eI), .sl (x.finis.map eI), .sl (x.needs.map eS), iC x.id,
  .sl (x.lines.map LineR.e), .sl (x.unw.map UnwR.e), .sl (x.files.map eS), .sl (x.types.map Ty.e), .sl (x.vars.map Var.e), .sl (x.places.map Plc.e)]
def Ldd.e (x : Ldd) : List CV := x.img.e ++ [iC x.bias, iC x.thr, iC x.uses]
def Pnd.e (x : Pnd) : List CV := [iC x.addr, iC x.size, wC x.val]
def Pag.e (x : Pag) : List CV := [iC x.addr, iC x.rights, .sl (x.data.map eY)]
def Cor.e (x : Cor) : List CV := x.regs.map wC ++ x.vecs.map wC ++ [iC x.flags, wC x.pc, wC x.tp, bC x.user, bC x.stopped, wC x.handler, iC x.cause, wC x.saved, .sl (x.buf.map Pnd.e)]
def Prc.e (x : Prc) : List CV := [.sl (x.loaded.map Ldd.e), .sl (x.mem.map Pag.e), .sl (x.cores.map Cor.e), .sl (x.out.map eI), bC x.lzy]
def agg (l : List CV) : AV := .ag (l.map .c)
def fltV (c i : Int) : AV := agg [iC c, iC i]
def iV (n : Int) : AV := .c (iC n)
def wV (n : Int) : AV := .c (wC n)
def yV (n : Int) : AV := .c (yC n)
def bV (b : Bool) : AV := .c (bC b)
def sV (s : ByteArray) : AV := .c (sC s)

/-! ### Numbers within their kinds -/
def i64r (n : Int) : Prop := -9223372036854775808 ≤ n ∧ n ≤ 9223372036854775807
def u32r (n : Int) : Prop := 0 ≤ n ∧ n ≤ 4294967295
theorem wrap_i64 {n : Int} (h : -9223372036854775808 ≤ n ∧ n ≤ 9223372036854775807) : IntKind.wrap .i64 n = n := by
  unfold IntKind.wrap
  simp only [IntKind.bits, IntKind.signed, Bool.true_and]
  by_cases hc : n % 2 ^ 64 ≥ 2 ^ (64 - 1)
  · rw [if_pos (by simpa using hc)]; omega
  · rw [if_neg (by simpa using hc)]; omega
theorem wrapE (n : Int) : (-9223372036854775808 ≤ n ∧ n ≤ 9223372036854775807) → IntKind.wrap .i64 n = n := wrap_i64
theorem wrap_u32 {n : Int} (h : 0 ≤ n ∧ n ≤ 4294967295) : IntKind.wrap .u32 n = n := by
  unfold IntKind.wrap
  simp only [IntKind.bits, IntKind.signed, Bool.false_and, Bool.false_eq_true, if_false]
  omega
theorem wrap_u8 {n : Int} (h : 0 ≤ n ∧ n ≤ 255) : IntKind.wrap .u8 n = n := by
  unfold IntKind.wrap
  simp only [IntKind.bits, IntKind.signed, Bool.false_and, Bool.false_eq_true, if_false]
  omega
end Go.Den
namespace Go.Den
theorem len8 {α : Type} {l : List α} (h : l.length = 8) : ∃ a0 a1 a2 a3 a4 a5 a6 a7, l = [a0, a1, a2, a3, a4, a5, a6, a7] := by
  match l, h with
  | [a0, a1, a2, a3, a4, a5, a6, a7], _ => exact ⟨_, _, _, _, _, _, _, _, rfl⟩
theorem len16 {α : Type} {l : List α} (h : l.length = 16) : ∃ a0 a1 a2 a3 a4 a5 a6 a7 a8 a9 b0 b1 b2 b3 b4 b5, l = [a0, a1, a2, a3, a4, a5, a6, a7, a8, a9, b0, b1, b2, b3, b4, b5] := by
  match l, h with
  | [a0, a1, a2, a3, a4, a5, a6, a7, a8, a9, b0, b1, b2, b3, b4, b5], _ => exact ⟨_, _, _, _, _, _, _, _, _, _, _, _, _, _, _, _, rfl⟩
theorem map_get {α : Type} (e : α → List CV) (l : List α) {i : Int} (h0 : 0 ≤ i) (h : i < l.length) : ∃ x, l[i.toNat]? = some x ∧ (l.map e)[i.toNat]? = some (e x) := by
  have hlt : i.toNat < l.length := by omega
  exact ⟨l[i.toNat], by simp [hlt], by simp [hlt]⟩
theorem counter (n0 : Int) : ∃ x : Nat → Int, ∀ i : Nat, x i = n0 + i := ⟨_, fun _ => rfl⟩
end Go.Den

namespace Go.Den
section
variable {P : Program} {ω : Om}
theorem meanE_id {α : Type} {F : α → Prop} {Q : α → AX → St → Prop} {n : Nat} {c : Cfg} {k : KK} {s : St} {p : Prop} (h : MeanE P F Q (runc ω n c k s p)) : MeanE P F Q (runc ω n c k s p) := h
theorem finFlt (hω : ω.Real) {F : Int × Int → Prop} {rvs : List RV} {H : List Ent} {p : Prop} {e : AX} {s : St} {q : Prop} {a b : Int} (hf : finR ω rvs e s = some (q, .ag [.c (.sc (.int .i64 a)), .c (.sc (.int .i64 b))], H))
    (hv : F (a, b)) (hu : ∀ e ∈ s.B, Ent.und s.B.length e) (hp : p) (hq : q) : MeanE P F (fun v => EndsR rvs fun r' H' => r' = fltV v.1 v.2 ∧ H' = H) (p, .fin e s) := meanE_fin hω (a, b) hf ⟨rfl, rfl⟩ hv hu hp hq
theorem finInt (hω : ω.Real) {F : Int → Prop} {rvs : List RV} {H : List Ent} {p : Prop} {e : AX} {s : St} {q : Prop} {a : Int} (hf : finR ω rvs e s = some (q, .c (.sc (.int .i64 a)), H))
    (hv : F a) (hu : ∀ e ∈ s.B, Ent.und s.B.length e) (hp : p) (hq : q) : MeanE P F (fun v => EndsR rvs fun r' H' => r' = iV v ∧ H' = H) (p, .fin e s) := meanE_fin hω a hf ⟨rfl, rfl⟩ hv hu hp hq
theorem finBool (hω : ω.Real) {F : Bool → Prop} {rvs : List RV} {H : List Ent} {p : Prop} {e : AX} {s : St} {q : Prop} {a : Bool} (hf : finR ω rvs e s = some (q, .c (.sc (.bool a)), H))
    (hv : F a) (hu : ∀ e ∈ s.B, Ent.und s.B.length e) (hp : p) (hq : q) : MeanE P F (fun v => EndsR rvs fun r' H' => r' = bV v ∧ H' = H) (p, .fin e s) := meanE_fin hω a hf ⟨rfl, rfl⟩ hv hu hp hq
/-- A call of a function whose answer is told by its own walk. -/
theorem callE (hω : ω.Real) {α β : Type} {F : α → Prop} {Q : α → AX → St → Prop} {G : β → Prop} {rv : β → AV} {p : Prop} {d : Option Nat} {f : FuncId} {as : List AV} {rest : List Item} {k : KK} {s : St}
    (hc : ∃ v, G v ∧ PCalls P f as [] (rv v)) (hu : undL 0 as) (hr : ∀ v, (rv v).und 0) (hp : p)
    (h : ∀ v, G v → MeanE P F Q (runc ω 100000 (.code (.reg false rest)) k (s.put d (rv v)) True)) : MeanE P F Q (p, .call false false d f as rest k s) := by
  obtain ⟨v, hv, hc⟩ := hc
  exact meanE_call hω (hc.any hu (hr v) _) hp (h v hv)
/-- A call whose contract names the memory that is there. -/
theorem meanE_callF (hω : ω.Real) {α β : Type} {F : α → Prop} {Q : α → AX → St → Prop} {G : β → Prop} {rv : β → AV} {p : Prop} {d : Option Nat} {f : FuncId} {as : List AV} {rest : List Item} {k : KK} {s : St}
    (hc : ∃ v, G v ∧ PCalls P f as (s.B ++ s.L) (rv v)) (hp : p)
    (h : ∀ v, G v → MeanE P F Q (runc ω 100000 (.code (.reg false rest)) k (s.put d (rv v)) True)) : MeanE P F Q (p, .call false false d f as rest k s) := by
  obtain ⟨v, hv, hc⟩ := hc
  exact meanE_call hω hc hp (h v hv)
theorem meanE_callGF (hω : ω.Real) {α β : Type} {F : α → Prop} {Q : α → AX → St → Prop} {G : β → Prop} {rv : β → AV} {p : Prop} {d : Option Nat} {f : FuncId} {as : List AV} {rest : List Item} {k : KK} {s : St}
    (hc : ∃ v, G v ∧ PCalls P f as (s.B ++ s.L) (rv v)) (hp : p)
    (h : ∀ v, G v → MeanE P F Q (runc ω 100000 (.code (.reg false rest)) k (s.put d (.when true (rv v))) True)) : MeanE P F Q (p, .call false true d f as rest k s) := by
  obtain ⟨v, hv, hc⟩ := hc
  exact meanE_callG hω hc hp (h v hv)
theorem meanE_callQF (hω : ω.Real) {α β : Type} {F : α → Prop} {Q : α → AX → St → Prop} {G : β → Prop} {rv : β → AV} {p : Prop} {grd : Bool} {d : Option Nat} {f : FuncId} {as : List AV} {rest : List Item} {k : KK} {s : St}
    (hc : ∃ v, G v ∧ PCalls P f as (s.B ++ s.L) (rv v)) (hp : p)
    (h : ∀ v, G v → MeanE P F Q (runc ω 100000 (.code (.reg true rest)) k (s.put d (if grd then .when true (rv v) else rv v)) True)) : MeanE P F Q (p, .call true grd d f as rest k s) := by
  obtain ⟨v, hv, hc⟩ := hc
  exact meanE_callQ hω hc hp (h v hv)
theorem callGE (hω : ω.Real) {α β : Type} {F : α → Prop} {Q : α → AX → St → Prop} {G : β → Prop} {rv : β → AV} {p : Prop} {d : Option Nat} {f : FuncId} {as : List AV} {rest : List Item} {k : KK} {s : St}
    (hc : ∃ v, G v ∧ PCalls P f as [] (rv v)) (hu : undL 0 as) (hr : ∀ v, (rv v).und 0) (hp : p)
    (h : ∀ v, G v → MeanE P F Q (runc ω 100000 (.code (.reg false rest)) k (s.put d (.when true (rv v))) True)) : MeanE P F Q (p, .call false true d f as rest k s) := by
  obtain ⟨v, hv, hc⟩ := hc
  exact meanE_callG hω (hc.any hu (hr v) _) hp (h v hv)
theorem callQE (hω : ω.Real) {α β : Type} {F : α → Prop} {Q : α → AX → St → Prop} {G : β → Prop} {rv : β → AV} {p : Prop} {grd : Bool} {d : Option Nat} {f : FuncId} {as : List AV} {rest : List Item} {k : KK} {s : St}
    (hc : ∃ v, G v ∧ PCalls P f as [] (rv v)) (hu : undL 0 as) (hr : ∀ v, (rv v).und 0) (hp : p)
    (h : ∀ v, G v → MeanE P F Q (runc ω 100000 (.code (.reg true rest)) k (s.put d (if grd then .when true (rv v) else rv v)) True)) : MeanE P F Q (p, .call true grd d f as rest k s) := by
  obtain ⟨v, hv, hc⟩ := hc
  exact meanE_callQ hω (hc.any hu (hr v) _) hp (h v hv)
end
end Go.Den

namespace Go.Den
/-- An image, its lists told by rows. -/
structure RImg where
  name : ByteArray
  shared : Bool
  segs : List (List CV)
  entry : Int
  exps : List (List CV)
  imps : List (List CV)
  fixs : List (List CV)
  thr : List (List CV)
  thrSize : Int
  inits : List (List CV)
  finis : List (List CV)
  needs : List (List CV)
  id : Int
  lines : List (List CV)
  unw : List (List CV)
  files : List (List CV)
  types : List (List CV)
  vars : List (List CV)
  places : List (List CV)
def RImg.e (x : RImg) : List CV := [sC x.name, bC x.shared, .sl x.segs, iC x.entry, .sl x.exps, .sl x.imps, .sl x.fixs, .sl x.thr, iC x.thrSize, .sl x.inits, .sl x.finis, .sl x.needs, iC x.id,
  .sl x.lines, .sl x.unw, .sl x.files, .sl x.types, .sl x.vars, .sl x.places]
def Img.r (x : Img) : RImg := ⟨x.name, x.shared, x.segs.map Seg.e, x.entry, x.exps.map Exp.e, x.imps.map Imp.e, x.fixs.map Fix.e, x.thr.map eY, x.thrSize, x.inits.map eI, x.finis.map eI, x.needs.map eS, x.id, x.lines.map LineR.e, x.unw.map UnwR.e, x.files.map eS, x.types.map Ty.e, x.vars.map Var.e, x.places.map Plc.e⟩
theorem Img.r_e (x : Img) : x.r.e = x.e := rfl
end Go.Den

namespace Go.Den
/-- An element of a list told by rows. -/
theorem elemM {P : Program} {ω : Om} {α τ : Type} {F : α → Prop} {Q : α → AX → St → Prop} (hω : ω.Real) {p : Prop} {draw grd : Bool} {d : Option Nat} {sz : Nat} {rows : List (List CV)} {i : Int} {rest : List Item} {k : KK} {s : St} {l : List τ} {e : τ → List CV}
    (hrows : rows = l.map e) (h0 : 0 ≤ i) (h1 : i < l.length) (hsz : ∀ x, (e x).length = sz) (hp : p)
    (h : ∀ x, l[i.toNat]? = some x → MeanE P F Q (runc ω 100000 (.code (.reg draw rest)) k (s.put d (if grd then .when true (.rp [e x] 0 0) else .rp [e x] 0 0)) True)) : MeanE P F Q (p, .elem draw grd d sz rows i rest k s) := by
  obtain ⟨x, hx, hx2⟩ := map_get e l h0 h1
  exact meanE_elem hω (e x) h0 (by rw [hrows]; exact hx2) (hsz x) hp (h x hx)
end Go.Den
namespace Go.Den
structure Seg.Ok (s : Seg) : Prop where
  a0 : 0 ≤ s.addr
  s1 : 1 ≤ s.size
  s2 : s.size ≤ 1048576
  a1 : s.addr ≤ 1048576 - s.size
  r : 1 ≤ s.rights ∧ s.rights ≤ 7
structure UnwR.Ok (q : UnwR) : Prop where
  reg : -1 ≤ q.reg ∧ q.reg ≤ 7
  off : 0 ≤ q.off ∧ q.off ≤ 1048576
  add : -1048576 ≤ q.add ∧ q.add ≤ 1048576
  saved : -1048576 ≤ q.saved ∧ q.saved ≤ 0
structure Fld.Ok (l : List Ty) (i : Nat) (t : Ty) (f : Fld) : Prop where
  ty : 0 ≤ f.ty ∧ f.ty < i
  off : 0 ≤ f.off ∧ f.off ≤ t.size
structure Ty.Ok (l : List Ty) (i : Nat) (t : Ty) : Prop where
  kind : 1 ≤ t.kind ∧ t.kind ≤ 4
  size : 0 ≤ t.size ∧ t.size ≤ 1000000
  count : 0 ≤ t.count ∧ t.count ≤ 1000000
  elem : 0 ≤ t.elem ∧ t.elem < l.length
  int : t.kind = 1 → t.size = 1 ∨ t.size = 4
  ptr : t.kind = 2 → t.size = 4
  arr : t.kind = 3 → t.elem < i ∧ ∀ e, l[t.elem.toNat]? = some e → t.size = t.count * e.size
  flds : ∀ (k : Nat) f, t.flds[k]? = some f → Fld.Ok l i t f
structure Var.Ok (l : List Ty) (v : Var) : Prop where
  ty : 0 ≤ v.ty ∧ v.ty < l.length
  addr : 0 ≤ v.addr ∧ v.addr ≤ 1048576
structure Img.Ok (x : Img) : Prop where
  segs : ∀ (k : Nat) s, x.segs[k]? = some s → s.Ok
  unw : ∀ (k : Nat) q, x.unw[k]? = some q → q.Ok
  unwS : ∀ (k : Nat) a b, x.unw[k]? = some a → x.unw[k + 1]? = some b → a.off < b.off
  types : ∀ (k : Nat) t, x.types[k]? = some t → Ty.Ok x.types k t
  vars : ∀ (k : Nat) v, x.vars[k]? = some v → Var.Ok x.types v
structure Ldd.Ok (d : Ldd) : Prop where
  img : d.img.Ok
  bias : 0 ≤ d.bias ∧ d.bias < 1048576
structure Pag.Ok (p : Pag) : Prop where
  al : p.addr % 256 = 0
  a : 0 ≤ p.addr ∧ p.addr ≤ 1048320
  r : 0 ≤ p.rights ∧ p.rights ≤ 7
  d : p.data.length = 256
structure Pnd.Ok (q : Pnd) : Prop where
  size : q.size = 1 ∨ q.size = 4
  a : 0 ≤ q.addr ∧ q.addr ≤ 1048576 - q.size
structure Cor.Ok (c : Cor) : Prop where
  len : c.buf.length ≤ 4
  buf : ∀ (i : Nat) q, c.buf[i]? = some q → q.Ok
structure MemOk (m : List Pag) : Prop where
  len : m.length ≤ 200
  pg : ∀ (k : Nat) p, m[k]? = some p → p.Ok
  srt : ∀ (k : Nat) a b, m[k]? = some a → m[k + 1]? = some b → a.addr < b.addr
structure Prc.Ok (p : Prc) : Prop where
  n : p.loaded.length ≤ 5
  loaded : ∀ (k : Nat) d, p.loaded[k]? = some d → d.Ok
  mem : MemOk p.mem
  cs : p.cores.length ≤ 4
  cores : ∀ (k : Nat) c, p.cores[k]? = some c → c.Ok
/-- What every value is, by its type and by what there is room for. -/
def u8r (n : Int) : Prop := 0 ≤ n ∧ n ≤ 255
def szr (s : ByteArray) : Prop := s.size ≤ 1048576
def LW {τ : Type} (ok : τ → Prop) (l : List τ) : Prop := l.length ≤ 1048576 ∧ ∀ (i : Nat) y, l[i]? = some y → ok y
def AW {τ : Type} (k : Nat) (ok : τ → Prop) (l : List τ) : Prop := l.length = k ∧ ∀ (i : Nat) y, l[i]? = some y → ok y
structure Seg.Wf (s : Seg) : Prop where
  addr : i64r s.addr
  size : i64r s.size
  rights : i64r s.rights
  data : LW u8r s.data
structure Exp.Wf (x : Exp) : Prop where
  name : szr x.name
  ver : szr x.ver
  addr : i64r x.addr
  size : i64r x.size
structure Imp.Wf (x : Imp) : Prop where
  name : szr x.name
  ver : szr x.ver
  slot : i64r x.slot
  copy : i64r x.copy
  size : i64r x.size
structure Fix.Wf (x : Fix) : Prop where
  addr : i64r x.addr
  kind : i64r x.kind
  imp : i64r x.imp
  add : i64r x.add
structure LineR.Wf (x : LineR) : Prop where
  off : i64r x.off
  file : i64r x.file
  line : i64r x.line
structure UnwR.Wf (x : UnwR) : Prop where
  off : i64r x.off
  reg : i64r x.reg
  add : i64r x.add
  saved : i64r x.saved
structure Fld.Wf (x : Fld) : Prop where
  name : szr x.name
  ty : i64r x.ty
  off : i64r x.off
structure Ty.Wf (x : Ty) : Prop where
  kind : i64r x.kind
  name : szr x.name
  size : i64r x.size
  elem : i64r x.elem
  count : i64r x.count
  flds : LW Fld.Wf x.flds
structure Var.Wf (x : Var) : Prop where
  name : szr x.name
  addr : i64r x.addr
  ty : i64r x.ty
structure Plc.Wf (x : Plc) : Prop where
  addr : i64r x.addr
  size : i64r x.size
  mod : i64r x.mod
  sec : i64r x.sec
  off : i64r x.off
structure Img.Wf (x : Img) : Prop where
  name : szr x.name
  segs : LW Seg.Wf x.segs
  entry : i64r x.entry
  exps : LW Exp.Wf x.exps
  imps : LW Imp.Wf x.imps
  fixs : LW Fix.Wf x.fixs
  thr : LW u8r x.thr
  thrSize : i64r x.thrSize
  inits : LW i64r x.inits
  finis : LW i64r x.finis
  needs : LW szr x.needs
  id : i64r x.id
  lines : LW LineR.Wf x.lines
  unw : LW UnwR.Wf x.unw
  files : LW szr x.files
  types : LW Ty.Wf x.types
  vars : LW Var.Wf x.vars
  places : LW Plc.Wf x.places
structure Ldd.Wf (x : Ldd) : Prop where
  img : x.img.Wf
  bias : i64r x.bias
  thr : i64r x.thr
  uses : i64r x.uses
structure Pnd.Wf (x : Pnd) : Prop where
  addr : i64r x.addr
  size : i64r x.size
  val : u32r x.val
structure Pag.Wf (x : Pag) : Prop where
  addr : i64r x.addr
  rights : i64r x.rights
  data : LW u8r x.data
structure Cor.Wf (c : Cor) : Prop where
  regs : AW 8 u32r c.regs
  vecs : AW 16 u32r c.vecs
  flags : i64r c.flags
  pc : u32r c.pc
  tp : u32r c.tp
  handler : u32r c.handler
  cause : i64r c.cause
  saved : u32r c.saved
  buf : LW Pnd.Wf c.buf
structure Prc.Wf (p : Prc) : Prop where
  loaded : LW Ldd.Wf p.loaded
  mem : LW Pag.Wf p.mem
  cores : LW Cor.Wf p.cores
  out : LW i64r p.out
end Go.Den
namespace Go.Den
/-- Where a number belongs in a list of numbers. -/
def lb (ks : List Int) (t : Int) : Nat := (ks.takeWhile fun k => decide (k < t)).length
theorem lb_eq {ks : List Int} {t : Int} {n : Nat} (h1 : ∀ (i : Nat) k, i < n → ks[i]? = some k → k < t) (h2 : ∀ k, ks[n]? = some k → t ≤ k) (h3 : n ≤ ks.length) : lb ks t = n := by
  unfold lb
  induction ks generalizing n with
  | nil => simp at h3; simp [h3]
  | cons a r ih =>
    cases n with
    | zero =>
      have := h2 a rfl
      rw [List.takeWhile_cons_of_neg (by simpa using this)]
      rfl
    | succ n =>
      have := h1 0 a (by omega) rfl
      rw [List.takeWhile_cons_of_pos (by simpa using this)]
      simp only [List.length_cons, Nat.add_right_cancel_iff]
      exact ih (fun i k hi hk => h1 (i + 1) k (by omega) (by simpa using hk)) (fun k hk => h2 k (by simpa using hk)) (by simpa using h3)
/-- Numbers that grow. -/
def Grows (ks : List Int) : Prop := ∀ (i : Nat) a b, ks[i]? = some a → ks[i + 1]? = some b → a < b
theorem Grows.lt {ks : List Int} (h : Grows ks) {i j : Nat} {a b : Int} (hij : i < j) (ha : ks[i]? = some a) (hb : ks[j]? = some b) : a < b := by
  induction j generalizing b with
  | zero => omega
  | succ j ih =>
    have hj : j < ks.length := by
      have := (List.getElem?_eq_some_iff.1 hb).1
      omega
    have h1 : ks[j]? = some ks[j] := by simp
    by_cases hji : i = j
    · subst hji
      exact h i a b ha hb
    · have := ih (by omega) h1
      have := h j _ b h1 hb
      omega

def execS (s : Seg) : Bool := !(bitsOf .and .i64 s.rights 4 == 0)
def segAt (s : Seg) (a : Int) : Bool := execS s && decide (s.addr ≤ a) && decide (a - s.addr < s.size)
def lddAt (d : Ldd) (a : Int) : Bool := d.img.segs.any fun s => segAt s (a - d.bias)
def codeAt (l : List Ldd) (a : Int) : Option Nat := l.findIdx? fun d => lddAt d a
/-- The last row whose offset is not greater. -/
def rowAt : List UnwR → Int → Option UnwR
  | [], _ => none
  | r :: rs, a => match rowAt rs a with
    | some x => some x
    | none => if r.off ≤ a then some r else none
def pageAt (m : List Pag) (a : Int) : Option Pag := m.find? fun p => decide (p.addr ≤ a) && decide (a ≤ p.addr + 255)
def byteAt (m : List Pag) (a : Int) : Int := match pageAt m a with
  | some p => p.data.getD (a - p.addr).toNat 0
  | none => 0
def rightsAt (m : List Pag) (a : Int) : Int := match pageAt m a with
  | some p => p.rights
  | none => 0
def canAt (m : List Pag) (a r : Int) : Bool := bitsOf .and .i64 (rightsAt m a) r == r

theorem pageAt_lb {m : List Pag} (h : MemOk m) (a : Int) (t : Int) (ht : t = a - a % 256) : pageAt m a = match m[lb (m.map Pag.addr) t]? with
    | some p => if p.addr = t then some p else none
    | none => none := by
  have key : ∀ (i : Nat) p, m[i]? = some p → p.addr = t → lb (m.map Pag.addr) t = i := fun i p hi hp => by
    have hg : Grows (m.map Pag.addr) := fun j a b ha hb => by
      simp only [List.getElem?_map, Option.map_eq_some_iff] at ha hb
      obtain ⟨x, hx, rfl⟩ := ha
      obtain ⟨y, hy, rfl⟩ := hb
      exact h.srt j x y hx hy
    have hi' : (m.map Pag.addr)[i]? = some t := by simp [hi, hp]
    refine lb_eq (fun j k hj hk => hg.lt hj hk hi') (fun k hk => ?_) ?_
    · rw [hi'] at hk; cases hk; exact Int.le_refl _
    · have := (List.getElem?_eq_some_iff.1 hi').1; omega
  have hiff : ∀ p ∈ m, (decide (p.addr ≤ a) && decide (a ≤ p.addr + 255)) = true ↔ p.addr = t := fun p hp => by
    obtain ⟨i, hi⟩ := List.mem_iff_getElem?.1 hp
    have := (h.pg i p hi).al
    simp only [Bool.and_eq_true, decide_eq_true_eq]
    omega
  unfold pageAt
  cases hf : m.find? fun p => decide (p.addr ≤ a) && decide (a ≤ p.addr + 255) with
  | some p =>
    have hm := List.mem_of_find?_eq_some hf
    have hp := (hiff p hm).1 (List.find?_some (p := fun p : Pag => decide (p.addr ≤ a) && decide (a ≤ p.addr + 255)) hf)
    obtain ⟨i, hi⟩ := List.mem_iff_getElem?.1 hm
    rw [key i p hi hp, hi]
    simp [hp]
  | none =>
    cases hg : m[lb (m.map Pag.addr) t]? with
    | none => rfl
    | some p =>
      have hm := List.mem_of_getElem? hg
      have hne : ¬ p.addr = t := fun he => by
        have := List.find?_eq_none.1 hf p hm
        exact this ((hiff p hm).2 he)
      simp [hne]
theorem andNot255 {a : Int} (h0 : 0 ≤ a) (h1 : a < 9223372036854775808) : bitsOf .andNot .i64 a 255 = a - a % 256 := by
  obtain ⟨n, rfl⟩ := Int.eq_ofNat_of_zero_le h0
  have hn : n < 2 ^ 64 := by omega
  have hb : (BitVec.ofInt 64 (n : Int) &&& ~~~(BitVec.ofInt 64 255)).toNat = n - n % 256 := by
    have e1 : BitVec.ofInt 64 (n : Int) = BitVec.ofNat 64 n := by simp
    have e2 : BitVec.ofInt 64 (255 : Int) = BitVec.ofNat 64 255 := rfl
    rw [e1, e2]
    apply Nat.eq_of_testBit_eq
    intro i
    have e3 : n - n % 256 = n >>> 8 <<< 8 := by rw [Nat.shiftRight_eq_div_pow, Nat.shiftLeft_eq]; omega
    rw [e3]
    simp only [BitVec.toNat_and, Nat.testBit_and, BitVec.testBit_toNat, BitVec.getLsbD_not, BitVec.getLsbD_ofNat, Nat.testBit_shiftLeft, Nat.testBit_shiftRight]
    have e4 : (255 : Nat).testBit i = decide (i < 8) := Nat.testBit_two_pow_sub_one 8 i
    rw [e4]
    by_cases h64 : i < 64
    · by_cases h8 : i < 8
      · have : ¬ i ≥ 8 := by omega
        simp [h64, h8, this]
      · have h8' : i ≥ 8 := by omega
        have : 8 + (i - 8) = i := by omega
        simp [h64, h8, h8', this]
    · have : n.testBit i = false := Nat.testBit_lt_two_pow (Nat.lt_of_lt_of_le hn (Nat.pow_le_pow_right (by omega) (by omega)))
      by_cases h8 : i ≥ 8
      · have h9 : 8 + (i - 8) = i := by omega
        simp [h64, h9, this]
      · omega
  have : bitsOf .andNot .i64 (n : Int) 255 = IntKind.wrap .i64 ((BitVec.ofInt 64 (n : Int) &&& ~~~(BitVec.ofInt 64 255)).toNat : Int) := rfl
  rw [this, hb, wrap_i64 (by omega)]
  omega
/-- Bytes, the last one first. -/
theorem or_byte {n b k : Nat} (hn : n < 2 ^ (8 * k)) (hb : b < 256) (hk : k < 4) : bitsOf .or .u32 (n : Int) (IntKind.wrap .u32 ((b : Int) * 2 ^ (8 * k))) = (n : Int) + (b : Int) * 2 ^ (8 * k) := by
  have hlt : b * 2 ^ (8 * k) < 2 ^ 32 := by
    have h1 : b * 2 ^ (8 * k) ≤ 255 * 2 ^ (8 * k) := Nat.mul_le_mul_right _ (by omega)
    have h2 : 2 ^ (8 * k) ≤ 2 ^ 24 := Nat.pow_le_pow_right (by omega) (by omega)
    have h3 : 255 * 2 ^ (8 * k) ≤ 255 * 2 ^ 24 := Nat.mul_le_mul_left _ h2
    omega
  have hn32 : n < 2 ^ 32 := Nat.lt_of_lt_of_le hn (Nat.pow_le_pow_right (by omega) (by omega))
  have e0 : (b : Int) * 2 ^ (8 * k) = ((b * 2 ^ (8 * k) : Nat) : Int) := by push_cast; rfl
  rw [e0, wrap_u32 (by omega)]
  have hor : n ||| (b * 2 ^ (8 * k)) = n + b * 2 ^ (8 * k) := by
    rw [Nat.or_comm, ← Nat.shiftLeft_eq, Nat.add_comm, Nat.shiftLeft_add_eq_or_of_lt hn]
  have hsum : n + b * 2 ^ (8 * k) < 2 ^ 32 := by
    rw [← hor]; exact Nat.or_lt_two_pow hn32 hlt
  have : bitsOf .or .u32 (n : Int) ((b * 2 ^ (8 * k) : Nat) : Int) = IntKind.wrap .u32 ((BitVec.ofInt 32 (n : Int) ||| BitVec.ofInt 32 ((b * 2 ^ (8 * k) : Nat) : Int)).toNat : Int) := rfl
  rw [this]
  have e1 : (BitVec.ofInt 32 (n : Int) ||| BitVec.ofInt 32 ((b * 2 ^ (8 * k) : Nat) : Int)).toNat = n + b * 2 ^ (8 * k) := by
    rw [BitVec.toNat_or]
    have f1 : (BitVec.ofInt 32 (n : Int)).toNat = n := by simp; omega
    have f2 : (BitVec.ofInt 32 ((b * 2 ^ (8 * k) : Nat) : Int)).toNat = b * 2 ^ (8 * k) := by
      rw [show BitVec.ofInt 32 ((b * 2 ^ (8 * k) : Nat) : Int) = BitVec.ofNat 32 (b * 2 ^ (8 * k)) from BitVec.ofInt_natCast 32 _]
      rw [BitVec.toNat_ofNat]
      exact Nat.mod_eq_of_lt hlt
    rw [f1, f2, hor]
  rw [e1, wrap_u32 (by omega)]
  push_cast
  rfl
/-- What a binary search finds. -/
structure Bs (ks : List Int) (t : Int) (i : Nat) (f : Bool) : Prop where
  le : i ≤ ks.length
  lo : ∀ (j : Nat) k, j < i → ks[j]? = some k → k < t
  hi : ∀ (j : Nat) k, i ≤ j → ks[j]? = some k → t ≤ k
  f : f = true ↔ ks[i]? = some t
theorem pageAt_bs {m : List Pag} (h : MemOk m) {a t : Int} {i : Nat} {f : Bool} (ht : t = a - a % 256) (hb : Bs (m.map Pag.addr) t i f) : pageAt m a = if f then m[i]? else none := by
  have := lb_eq (ks := m.map Pag.addr) (t := t) (n := i) (fun j k hj hk => hb.lo j k hj hk) (fun k hk => hb.hi i k (Nat.le_refl _) hk) hb.le
  rw [pageAt_lb h a t ht, this]
  cases hf : f with
  | true =>
    have := hb.f.1 hf
    simp only [List.getElem?_map, Option.map_eq_some_iff] at this
    obtain ⟨p, hp, he⟩ := this
    simp [hp, he]
  | false =>
    cases hm : m[i]? with
    | none => rfl
    | some p =>
      have : ¬ p.addr = t := fun he => by
        have := hb.f.2 (by simp [hm, he])
        rw [hf] at this; cases this
      simp [this]
theorem rowAt_none {rows : List UnwR} {a : Int} (h : ∀ (j : Nat) r, rows[j]? = some r → a < r.off) : rowAt rows a = none := by
  induction rows with
  | nil => rfl
  | cons x rs ih =>
    rw [rowAt, ih fun j r hr => h (j + 1) r (by simpa using hr)]
    have := h 0 x rfl
    simp only
    rw [if_neg (by omega)]
theorem rowAt_some {rows : List UnwR} {a : Int} {j : Nat} {r : UnwR} (hr : rows[j]? = some r) (hle : r.off ≤ a) (h : ∀ (i : Nat) q, j < i → rows[i]? = some q → a < q.off) : rowAt rows a = some r := by
  induction rows generalizing j with
  | nil => simp at hr
  | cons x rs ih =>
    cases j with
    | zero =>
      simp only [List.getElem?_cons_zero, Option.some.injEq] at hr
      subst hr
      rw [rowAt, rowAt_none fun i q hq => h (i + 1) q (by omega) (by simpa using hq)]
      simp only
      rw [if_pos hle]
    | succ j =>
      rw [rowAt, ih (j := j) (by simpa using hr) fun i q hi hq => h (i + 1) q (by omega) (by simpa using hq)]
theorem rowAt_snoc (rows : List UnwR) (r : UnwR) (a : Int) : rowAt (rows ++ [r]) a = if r.off ≤ a then some r else rowAt rows a := by
  induction rows with
  | nil => simp only [List.nil_append, rowAt]
  | cons x rs ih =>
    rw [List.cons_append, rowAt, ih]
    by_cases h : r.off ≤ a
    · simp [h]
    · simp [h, rowAt]
/-- Where the program looks. -/
theorem rowAt_bs {rows : List UnwR} (hg : Grows (rows.map UnwR.off)) {a : Int} {i : Nat} {f : Bool} (hb : Bs (rows.map UnwR.off) a i f) : rowAt rows a = if f then rows[i]? else if i = 0 then none else rows[i - 1]? := by
  have get : ∀ (j : Nat) r, rows[j]? = some r → (rows.map UnwR.off)[j]? = some r.off := fun j r h => by simp [h]
  cases hf : f with
  | true =>
    have := hb.f.1 hf
    have h2 := this
    simp only [List.getElem?_map, Option.map_eq_some_iff] at this
    obtain ⟨r, hr, he⟩ := this
    rw [if_pos rfl, hr]
    exact rowAt_some hr (by omega) fun j q hj hq => hg.lt hj h2 (get j q hq)
  | false =>
    have hgt : ∀ (j : Nat) q, i ≤ j → rows[j]? = some q → a < q.off := fun j q hj hq => by
      have h1 := hb.hi j q.off hj (get j q hq)
      by_cases h2 : a = q.off
      · by_cases hji : j = i
        · subst hji
          have := hb.f.2 (by rw [get j q hq, h2])
          rw [hf] at this; cases this
        · have hlt : i < (rows.map UnwR.off).length := by have := (List.getElem?_eq_some_iff.1 hq).1; simp; omega
          have h3 : (rows.map UnwR.off)[i]? = some (rows.map UnwR.off)[i] := List.getElem?_eq_getElem hlt
          have h4 := hg.lt (show i < j by omega) h3 (get j q hq)
          have h5 := hb.hi i _ (Nat.le_refl _) h3
          omega
      · omega
    simp only [Bool.false_eq_true, if_false]
    by_cases h0 : i = 0
    · subst h0
      rw [if_pos rfl]
      exact rowAt_none fun j r hr => hgt j r (by omega) hr
    · rw [if_neg h0]
      have hlt : i - 1 < rows.length := by have := hb.le; simp at this; omega
      have h1 : rows[i - 1]? = some rows[i - 1] := by simp
      rw [h1]
      exact rowAt_some h1 (by have := hb.lo (i - 1) _ (by omega) (get _ _ h1); omega) fun j q hj hq => hgt j q (by omega) hq
end Go.Den
namespace Go.Den
theorem condF (c t : Bool) : cond c t false = (c && t) := by cases c <;> rfl
theorem condT (c t : Bool) : cond c true t = (c || t) := by cases c <;> rfl
def u32 (n : Int) : Int := IntKind.wrap .u32 n
/-- The byte at an address as a core sees it. -/
def pndHas (q : Pnd) (a : Int) : Bool := decide (q.addr ≤ a) && decide (a < q.addr + q.size)
def pndByte (q : Pnd) (a : Int) : Int := IntKind.wrap .u8 (q.val.fdiv (2 ^ (min (8 * (a - q.addr)).toNat 32)))
def seenL (buf : List Pnd) (a : Int) (b : Int) : Int := buf.foldl (fun b q => if pndHas q a then pndByte q a else b) b
def seenAt (m : List Pag) (buf : List Pnd) (a : Int) : Int := seenL buf a (byteAt m a)
def wordAt (m : List Pag) (buf : List Pnd) (a : Int) : Int := seenAt m buf a + 256 * seenAt m buf (a + 1) + 65536 * seenAt m buf (a + 2) + 16777216 * seenAt m buf (a + 3)
def wordOf (m : List Pag) (buf : List Pnd) (a : Int) : Option Int := if a % 4 = 0 ∧ canAt m a 1 = true then some (wordAt m buf a) else none
structure Wk where
  regs : List Int
  all : Bool
  pc : Int
  look : Int
def rowOf (p : Prc) (look : Int) : Option UnwR := (codeAt p.loaded look).bind fun i => (p.loaded[i]?).bind fun d => rowAt d.img.unw (look - d.bias)
def upOf (p : Prc) (buf : List Pnd) (w : Wk) : Option (Int × Wk) :=
  (rowOf p w.look).bind fun r =>
    if r.reg < 0 ∨ (w.all = false ∧ r.reg < 6) then none else
    let base := u32 (w.regs.getD r.reg.toNat 0 + u32 r.add)
    (wordOf p.mem buf (u32 (base - 4))).bind fun pc =>
    (if r.saved < 0 then wordOf p.mem buf (u32 (base + u32 r.saved)) else some (w.regs.getD 6 0)).map fun fp =>
      (base, ⟨(w.regs.set 6 fp).set 7 base, false, pc, pc - 1⟩)
def walkF (p : Prc) (buf : List Pnd) : Nat → Wk → List (Int × Int)
  | 0, _ => []
  | n + 1, w => match codeAt p.loaded w.pc with
    | none => []
    | some _ => match upOf p buf w with
      | none => [(w.pc, 0)]
      | some x => (w.pc, x.1) :: walkF p buf n x.2
def walkOf (p : Prc) (c : Cor) : List (Int × Int) := walkF p c.buf 40 ⟨c.regs, true, c.pc, c.pc⟩
def frE (x : Int × Int) : List CV := [wC x.1, wC x.2]

theorem byteAt_u8 {m : List Pag} (h : ∀ (k : Nat) p, m[k]? = some p → LW u8r p.data) (a : Int) : u8r (byteAt m a) := by
  unfold byteAt
  cases hp : pageAt m a with
  | none => exact ⟨Int.le_refl _, by simp only; omega⟩
  | some p =>
    obtain ⟨i, hi⟩ := List.mem_iff_getElem?.1 (List.mem_of_find?_eq_some hp)
    simp only [List.getD_eq_getElem?_getD]
    cases hd : p.data[(a - p.addr).toNat]? with
    | none => exact ⟨Int.le_refl _, by simp⟩
    | some y => exact (h i p hi).2 _ _ hd
theorem wrap_u8_range (n : Int) : u8r (IntKind.wrap .u8 n) := by
  unfold IntKind.wrap u8r
  simp only [IntKind.bits, IntKind.signed, Bool.false_and, Bool.false_eq_true, if_false]
  omega
theorem u32_range (n : Int) : u32r (u32 n) := by
  unfold u32 IntKind.wrap u32r
  simp only [IntKind.bits, IntKind.signed, Bool.false_and, Bool.false_eq_true, if_false]
  omega
theorem seenL_u8 (buf : List Pnd) (a b : Int) (h : u8r b) : u8r (seenL buf a b) := by
  unfold seenL
  induction buf generalizing b with
  | nil => exact h
  | cons q r ih =>
    rw [List.foldl_cons]
    refine ih _ ?_
    split
    · exact wrap_u8_range _
    · exact h
theorem seenL_snoc (buf : List Pnd) (q : Pnd) (a b : Int) : seenL (buf ++ [q]) a b = if pndHas q a then pndByte q a else seenL buf a b := by
  unfold seenL
  rw [List.foldl_append]
  rfl
theorem take_snoc {α : Type} {l : List α} {i : Nat} {q : α} (h : l[i]? = some q) : l.take (i + 1) = l.take i ++ [q] := by
  rw [List.take_add_one, h]
  rfl
theorem seenAt_u8 {m : List Pag} (h : ∀ (k : Nat) p, m[k]? = some p → LW u8r p.data) (buf : List Pnd) (a : Int) : u8r (seenAt m buf a) := seenL_u8 buf a _ (byteAt_u8 h a)
theorem wordAt_u32 {m : List Pag} (h : ∀ (k : Nat) p, m[k]? = some p → LW u8r p.data) (buf : List Pnd) (a : Int) : u32r (wordAt m buf a) := by
  have h0 := seenAt_u8 h buf a
  have h1 := seenAt_u8 h buf (a + 1)
  have h2 := seenAt_u8 h buf (a + 2)
  have h3 := seenAt_u8 h buf (a + 3)
  unfold u8r at h0 h1 h2 h3
  unfold u32r wordAt
  omega
theorem codeAt_some {l : List Ldd} {a : Int} {i : Nat} {d : Ldd} (hd : l[i]? = some d) (h : lddAt d a = true) (hn : ∀ (j : Nat) q, j < i → l[j]? = some q → lddAt q a = false) : codeAt l a = some i := by
  have hlt := (List.getElem?_eq_some_iff.1 hd).1
  unfold codeAt
  rw [List.findIdx?_eq_some_iff_getElem]
  refine ⟨hlt, ?_, fun j hj => ?_⟩
  · rw [(List.getElem?_eq_some_iff.1 hd).2]; exact h
  · have := hn j l[j] hj (by simp)
    simp [this]
theorem codeAt_none {l : List Ldd} {a : Int} (hn : ∀ (j : Nat) q, l[j]? = some q → lddAt q a = false) : codeAt l a = none := by
  unfold codeAt
  rw [List.findIdx?_eq_none_iff]
  intro q hq
  obtain ⟨j, hj⟩ := List.mem_iff_getElem?.1 hq
  exact hn j q hj
theorem codeAt_get {l : List Ldd} {a : Int} {i : Nat} (h : codeAt l a = some i) : ∃ d, l[i]? = some d := by
  unfold codeAt at h
  rw [List.findIdx?_eq_some_iff_getElem] at h
  obtain ⟨hlt, _⟩ := h
  exact ⟨l[i], by simp⟩
theorem lddAt_true {d : Ldd} {a : Int} {k : Nat} {s : Seg} (hs : d.img.segs[k]? = some s) (h : segAt s (a - d.bias) = true) : lddAt d a = true := by
  unfold lddAt
  rw [List.any_eq_true]
  exact ⟨s, List.mem_of_getElem? hs, h⟩
theorem lddAt_false {d : Ldd} {a : Int} (hn : ∀ (k : Nat) s, d.img.segs[k]? = some s → segAt s (a - d.bias) = false) : lddAt d a = false := by
  unfold lddAt
  rw [List.any_eq_false]
  intro s hs
  obtain ⟨k, hk⟩ := List.mem_iff_getElem?.1 hs
  simp [hn k s hk]
/-- What frames.Code returns. -/
def codeR (l : List Ldd) (a : Int) : Int × Int × Bool := match codeAt l a with
  | none => (0, 0, false)
  | some i => (i, a - (l[i]?).elim 0 Ldd.bias, true)
theorem codeR_some {l : List Ldd} {a : Int} {i : Nat} {d : Ldd} (hd : l[i]? = some d) (h : codeAt l a = some i) : codeR l a = (↑i, a - d.bias, true) := by
  unfold codeR
  rw [h]
  simp only [hd, Option.elim]
theorem codeR_none {l : List Ldd} {a : Int} (h : codeAt l a = none) : codeR l a = (0, 0, false) := by
  unfold codeR
  rw [h]
end Go.Den
namespace Go.Den
def upRow (p : Prc) (buf : List Pnd) (w : Wk) (r : UnwR) : Option (Int × Wk) :=
    if r.reg < 0 ∨ (w.all = false ∧ r.reg < 6) then none else
    let base := u32 (w.regs.getD r.reg.toNat 0 + u32 r.add)
    (wordOf p.mem buf (u32 (base - 4))).bind fun pc =>
    (if r.saved < 0 then wordOf p.mem buf (u32 (base + u32 r.saved)) else some (w.regs.getD 6 0)).map fun fp =>
      (base, ⟨(w.regs.set 6 fp).set 7 base, false, pc, pc - 1⟩)
theorem upOf_code {p : Prc} {buf : List Pnd} {w : Wk} (h : codeAt p.loaded w.look = none) : upOf p buf w = none := by
  unfold upOf rowOf
  rw [h]
  rfl
theorem upOf_row {p : Prc} {buf : List Pnd} {w : Wk} {i : Nat} {d : Ldd} (h : codeAt p.loaded w.look = some i) (hd : p.loaded[i]? = some d) : upOf p buf w = (rowAt d.img.unw (w.look - d.bias)).bind (upRow p buf w) := by
  unfold upOf rowOf
  rw [h]
  simp only [Option.bind_some, hd]
  rfl
structure WkOk (w : Wk) : Prop where
  regs : AW 8 u32r w.regs
  pc : u32r w.pc
  look : -1 ≤ w.look ∧ w.look ≤ 4294967295
theorem wordOf_u32 {m : List Pag} (h : ∀ (k : Nat) p, m[k]? = some p → LW u8r p.data) {buf : List Pnd} {a n : Int} (hw : wordOf m buf a = some n) : u32r n := by
  unfold wordOf at hw
  split at hw
  · cases hw; exact wordAt_u32 h buf a
  · cases hw
theorem getD_u32 {l : List Int} (h : ∀ (i : Nat) y, l[i]? = some y → u32r y) (i : Nat) : u32r (l.getD i 0) := by
  rw [List.getD_eq_getElem?_getD]
  cases hl : l[i]? with
  | none => exact ⟨Int.le_refl _, by simp⟩
  | some y => exact h i y hl
theorem upRow_ok {p : Prc} (h : ∀ (k : Nat) q, p.mem[k]? = some q → LW u8r q.data) {buf : List Pnd} {w : Wk} (hw : WkOk w) {r : UnwR} {x : Int × Wk} (hx : upRow p buf w r = some x) : u32r x.1 ∧ WkOk x.2 := by
  unfold upRow at hx
  split at hx
  · cases hx
  · simp only [Option.bind_eq_some_iff, Option.map_eq_some_iff] at hx
    obtain ⟨pc, h1, fp, h2, rfl⟩ := hx
    have hpc := wordOf_u32 h h1
    have hfp : u32r fp := by
      split at h2
      · exact wordOf_u32 h h2
      · cases h2; exact getD_u32 hw.regs.2 6
    have hb := u32_range (w.regs.getD r.reg.toNat 0 + u32 r.add)
    refine ⟨hb, ⟨by simp [hw.regs.1], fun i y hy => ?_⟩, hpc, ?_⟩
    · simp only [List.getElem?_set] at hy
      split at hy
      · split at hy
        · cases hy; exact hb
        · cases hy
      · split at hy
        · split at hy
          · cases hy; exact hfp
          · cases hy
        · exact hw.regs.2 i y hy
    · unfold u32r at hpc
      simp only
      omega
end Go.Den
namespace Go.Den
/-- A function without captured variables, as the program's text writes it. -/
def fnC (f : FuncId) : AV := .c (.sc (.func (.func f) #[] #[]))
theorem fnC_rel {C : Cx} {f : FuncId} {v : Value} (h : Rel C (fnC f) v) : Rel C (.fn f []) v := by
  unfold fnC at h
  simp only [Rel] at h ⊢
  cases h with
  | sc => exact ⟨#[], rfl, trivial⟩
def LeA (C : Cx) : List AV → List AV → Prop
  | [], [] => True
  | a :: as, b :: bs => (∀ v, Rel C a v → Rel C b v) ∧ LeA C as bs
  | _, _ => False
theorem LeA.rel {C : Cx} : ∀ {as bs : List AV} {vs : List Value}, LeA C as bs → RelL C as vs → RelL C bs vs
  | [], [], _, _, h => h
  | _ :: _, _ :: _, [], _, h => h.elim
  | _ :: _, _ :: _, _ :: _, h, k => ⟨h.1 _ k.1, LeA.rel h.2 k.2⟩
  | [], _ :: _, _, h, _ => h.elim
  | _ :: _, [], _, h, _ => h.elim
theorem ACalls.le {P : Program} {f : FuncId} {us bs : List AV} {H : List Ent} {R : AV → List Ent → Prop} (h : ACalls P f bs H R) (hl : ∀ C, LeA C us bs) : ACalls P f us H R :=
  ⟨h.1, fun C vals h1 h2 h3 => h.2 C vals h1 h2 ((hl C).rel h3)⟩
end Go.Den
namespace Go.Den
noncomputable section
theorem ACalls.runE {P : Program} (hm : P.follows .mixedOrders = true) {ω : Om} (hω : ω.Real) {f : FuncId} {ac : ACode} {k : Nat} {rvs : List RV} (hf : FnIs P f ac k rvs) {args : List AV} {H : List Ent} {α : Type} {F : α → Prop} {R : α → AV → List Ent → Prop}
    (h : MeanE P F (fun v => EndsR rvs (R v)) (runc ω 100000 (.code ac) .nil (start k args H) True)) : ∃ v, F v ∧ ACalls P f args H (R v) := by
  obtain ⟨v, hv, h⟩ := h
  exact ⟨v, hv, ACalls.run hm hω hf fun _ _ => h⟩
/-- A call that changes memory, and how. -/
theorem meanE_callD {P : Program} {ω : Om} (hω : ω.Real) {α : Type} {F : α → Prop} {Q : α → AX → St → Prop} {p : Prop} {d : Option Nat} {f : FuncId} {as : List AV} {rest : List Item} {k : KK} {s : St} {r0 : AV} {H0 : List Ent} (B' L' : List Ent)
    (hc : ACalls P f as (s.B ++ s.L) fun r H' => r = r0 ∧ H' = H0) (hH : H0 = B' ++ L') (hl : B'.length = s.B.length) (hp : p)
    (h : MeanE P F Q (runc ω 100000 (.code (.reg false rest)) k (St.put { s with B := B', L := L' } d r0) True)) : MeanE P F Q (p, .call false false d f as rest k s) := by
  obtain ⟨v, hv, h⟩ := h
  refine ⟨v, hv, mean_callR hω hp hc ?_⟩
  rintro r H' ⟨rfl, rfl⟩
  exact ⟨B', L', hH, hl, h⟩
end
end Go.Den
namespace Go.Den
noncomputable section
theorem runc_succ {ω : Om} : ∀ (n : Nat) (cfg : Cfg) (k : KK) (s : St) (p : Prop), (runc ω n cfg k s p).2 ≠ .bad → runc ω (n + 1) cfg k s p = runc ω n cfg k s p
  | 0, _, _, _, _, h => absurd rfl h
  | n + 1, .exit e, .nil, s, p, h => rfl
  | n + 1, .exit e, .seq y k', s, p, h => by
    cases e with
    | nrm => exact runc_succ n (.code y) k' s p h
    | exit i => exact runc_succ n (.exit (.exit i)) k' s p h
    | ret => exact runc_succ n (.exit .ret) k' s p h
  | n + 1, .exit e, .blk id k', s, p, h => by
    cases e with
    | nrm => exact runc_succ n (.exit .nrm) k' s p h
    | exit i =>
      simp only [runc] at h ⊢
      split
      · rename_i hi
        rw [if_pos hi] at h
        exact runc_succ n _ _ _ _ h
      · rename_i hi
        rw [if_neg hi] at h
        exact runc_succ n _ _ _ _ h
    | ret => exact runc_succ n (.exit .ret) k' s p h
  | n + 1, .code .skip, k, s, p, h => runc_succ n (.exit .nrm) k s p h
  | n + 1, .code (.exit id), k, s, p, h => runc_succ n (.exit (.exit id)) k s p h
  | n + 1, .code .ret, k, s, p, h => runc_succ n (.exit .ret) k s p h
  | n + 1, .code (.seq x y), k, s, p, h => runc_succ n _ _ _ _ h
  | n + 1, .code (.block id x), k, s, p, h => runc_succ n _ _ _ _ h
  | n + 1, .code (.loop x), k, s, p, h => rfl
  | n + 1, .code (.cond c x y), k, s, p, h => by
    rw [runc.eq_def] at h ⊢
    rw [runc.eq_def]
    simp only at h ⊢
    split
    · rename_i b hb
      simp only [hb] at h
      cases b <;> exact runc_succ n _ _ _ _ h
    · rfl
  | n + 1, .code (.reg draw []), k, s, p, h => runc_succ n _ _ _ _ h
  | n + 1, .code (.reg draw (.chk ps :: r)), k, s, p, h => by
    rw [runc.eq_def] at h ⊢
    rw [runc.eq_def]
    simp only at h ⊢
    split
    · rename_i hc
      simp only [hc] at h
      exact runc_succ n _ _ _ _ h
    · rfl
  | n + 1, .code (.reg draw (.seg [] :: r)), k, s, p, h => runc_succ n _ _ _ _ h
  | n + 1, .code (.reg draw (.seg (o :: ops) :: r)), k, s, p, h => by
    rw [runc.eq_def] at h ⊢
    rw [runc.eq_def]
    simp only at h ⊢
    cases he : elemOf ω o s with
    | some x =>
      obtain ⟨q, sz, rows, i⟩ := x
      simp only [he] at h ⊢
      cases hg : o.g with
      | none => simp only [hg]
      | some g =>
        simp only [hg] at h ⊢
        cases hv : oVal s (some g) with
        | none => simp only [hv]
        | some gb =>
          simp only [hv] at h ⊢
          cases gb
          · exact runc_succ n _ _ _ _ h
          · rfl
    | none =>
      simp only [he] at h ⊢
      cases hd : (draw && !xOp o) with
      | true => simp only [hd]
      | false =>
        simp only [hd] at h ⊢
        cases ho : oOne ω o s with
        | some x =>
          obtain ⟨q, s'⟩ := x
          simp only [ho] at h ⊢
          exact runc_succ n _ _ _ _ h
        | none =>
          simp only [ho] at h ⊢
          cases hg : o.g with
          | none => simp only [hg]
          | some g =>
            simp only [hg] at h ⊢
            cases hv : oVal s (some g) with
            | none => simp only [hv]
            | some gb =>
              simp only [hv] at h ⊢
              cases gb
              · exact runc_succ n _ _ _ _ h
              · rfl
  | n + 1, .code (.reg draw (.call d g f args :: r)), k, s, p, h => by
    rw [runc.eq_def] at h ⊢
    rw [runc.eq_def]
    simp only at h ⊢
    cases g with
    | none => rfl
    | some g =>
      simp only at h ⊢
      cases hv : oVal s (some g) with
      | none => simp only [hv]
      | some gb =>
        simp only [hv] at h ⊢
        cases gb
        · exact runc_succ n _ _ _ _ h
        · rfl
theorem runc_le {ω : Om} {n m : Nat} (h : n ≤ m) {cfg : Cfg} {k : KK} {s : St} {p : Prop} (hb : (runc ω n cfg k s p).2 ≠ .bad) : runc ω m cfg k s p = runc ω n cfg k s p := by
  induction m with
  | zero =>
    obtain rfl : n = 0 := by omega
    rfl
  | succ m ih =>
    by_cases hnm : n = m + 1
    · subst hnm; rfl
    · have := ih (by omega)
      rw [runc_succ m cfg k s p (by rw [this]; exact hb), this]
theorem meanE_le {P : Program} {ω : Om} {α : Type} {F : α → Prop} {Q : α → AX → St → Prop} {n m : Nat} (h : n ≤ m) {cfg : Cfg} {k : KK} {s : St} {p : Prop} (hm : MeanE P F Q (runc ω n cfg k s p)) : MeanE P F Q (runc ω m cfg k s p) := by
  have hb : (runc ω n cfg k s p).2 ≠ .bad := fun e => by
    obtain ⟨v, hv, h1, h2⟩ := hm
    rw [e] at h2
    exact h2
  rw [runc_le h hb]
  exact hm
end
end Go.Den
