/-
  Part of the proof that FramesBeginAtTheCore returns true: the contracts of the functions of memory, buffer, unwind and frames.
  No condition.
-/
import Derived.Test.YtkimkplgmifckaaA3
import Derived.Test.YtkimkplgmifckaaB1
set_option linter.unusedSimpArgs false
set_option linter.unusedVariables false
set_option maxRecDepth 20000
set_option maxHeartbeats 8000000
namespace Go.Den.Z
open Go.Proofs
def cmpF (a b : Int) : Int := if a < b then -1 else if b < a then 1 else 0
theorem cmpF_lt (a b : Int) : cmpF a b < 0 ↔ a < b := by unfold cmpF; split <;> (try split) <;> omega
theorem cmpF_eq (a b : Int) : cmpF a b = 0 ↔ a = b := by unfold cmpF; split <;> (try split) <;> omega
theorem wrap_u64 {n : Int} (h : 0 ≤ n ∧ n ≤ 18446744073709551615) : IntKind.wrap .u64 n = n := by
  unfold IntKind.wrap
  simp only [IntKind.bits, IntKind.signed, Bool.false_and, Bool.false_eq_true, if_false]
  omega

theorem bsearchPag_ok {τ : Type} (l : List τ) (e : τ → List CV) (rows : List (List CV)) (hrows : rows = l.map e) (hsz : ∀ x, (e x).length = 3) (he : ∀ x, ∃ z0 z1 z2, e x = [z0, z1, z2]) (key : τ → Int) (hg : Grows (l.map key)) (t : Int) (f : FuncId) (caps : List AV) (H : List Ent) (hH : ∀ e ∈ H, Ent.und H.length e) (hcaps : undL H.length caps) (hlen : l.length ≤ 1048576)
    (hcmp : ∀ (i : Nat) x, l[i]? = some x → PCalls P f (agg (e x) :: iV t :: caps) H (iV (cmpF (key x) t))) : ∃ v : Int × Bool, (∃ i : Nat, v.1 = i ∧ Bs (l.map key) t i v.2) ∧ PCalls P 100 [.c (.sl rows), iV t, .fn f caps] H (.tu [iV v.1, bV v.2]) := by
  have hll : rows.length = l.length := by rw [hrows]; simp
  have hkey : ∀ (i : Nat) q, l[i]? = some q → (l.map key)[i]? = some (key q) := fun i q h => by simp [h]
  have hkl : (l.map key).length = l.length := by simp
  generalize l.map key = ks at hg hkey hkl
  obtain ⟨x, hx⟩ := counter 0
  obtain ⟨oi, ob, op, os, on, or_, om, hω⟩ := shields
  have hi : ∀ f, oi f = f () := hω.i
  have hb : ∀ f, ob f = f () := hω.b
  have hp : ∀ f, op f = f () := hω.p
  have hs : ∀ f, os f = f () := hω.s
  have hr : ∀ f, or_ f = f () := hω.r
  refine PCalls.runE hmix hω q_slices_BinarySearchFunc_api_Memory_api_Page_int ?_
  unfold c_slices_BinarySearchFunc_api_Memory_api_Page_int
  conv => arg 4; cbv
  refine meanE_loopG hω [0, 1, 2, 8, 9, 10] 0 (fun y : Nat × Nat => { t := slots 49 [(0, .c (.sl rows)), (1, iV t), (2, .fn f caps), (8, iV (oi fun _ => Int.ofNat rows.length)), (9, iV (x y.1)), (10, iV (x y.2))], B := H, L := [] }) (fun y => y.1 ≤ y.2 ∧ y.2 ≤ l.length ∧ (∀ (j : Nat) k, j < y.1 → ks[j]? = some k → k < t) ∧ (∀ (j : Nat) k, y.2 ≤ j → ks[j]? = some k → t ≤ k)) (fun y => y.2 - y.1) (0, l.length) ?_ ⟨Nat.zero_le _, Nat.le_refl _, fun j k hj => by omega, fun j k hj hk => by have := (List.getElem?_eq_some_iff.1 hk).1; omega⟩ hH ?_ ?_ ?_
  · (conv => lhs; cbv); (conv => rhs; cbv); rw [show x 0 = 0 from hx 0, show x l.length = (oi fun _ => Int.ofNat rows.length) from by rw [hx, hi, hll]; simp]
  · simp [FgtOk, undT, undEs, undEs.undRows, undL, AV.und]; exact hcaps
  · trivial
  rintro ⟨i, j⟩ ⟨hij, hjn, hlo, hhi⟩
  simp only at hij hjn hlo hhi
  have hxi : x i = i := by rw [hx]; omega
  have hxj : x j = j := by rw [hx]; omega
  simp only
  conv => arg 4; cbv
  split
  · rename_i h
    simp only [h]
    simp only [bIf_rec, pIf_rec, bNot_rec, hb, hi, hp, Int.ofNat_eq_natCast] at h
    simp at h
    conv => arg 4; cbv
    have hmid : (oi fun _ => IntKind.i64.wrap (oi fun _ => (oi fun _ => IntKind.u64.wrap (oi fun _ => IntKind.i64.wrap (x i + x j))).fdiv (2 ^ min (Int.toNat 1) IntKind.u64.bits))) = x ((i + j) / 2) := by
      simp only [hi]
      rw [wrap_i64 (n := x i + x j) (by omega), wrap_u64 (n := x i + x j) (by omega), show min (Int.toNat 1) IntKind.u64.bits = 1 from rfl, Int.fdiv_eq_ediv_of_nonneg _ (by omega), hxi, hxj, hx, wrap_i64 (by omega)]
      omega
    have hxm : x ((i + j) / 2) = ((i + j) / 2 : Nat) := by rw [hx]; omega
    rw [hmid]
    have hm1 : i ≤ (i + j) / 2 := by omega
    have hm2 : (i + j) / 2 < j := by omega
    generalize (i + j) / 2 = m at hxm hm1 hm2
    refine elemM hω hrows ?_ ?_ (fun _ => hsz _) ?_ fun q hq => ?_
    · omega
    · omega
    · simp only [bIf_rec, pIf_rec, bNot_rec, hb, hi, hp, Int.ofNat_eq_natCast]; simp
    have hq' : l[m]? = some q := by rw [← hq, hxm]; rfl
    have hcl := hcmp m q hq'
    have hks := hkey m q hq'
    have hc1 := cmpF_lt (key q) t
    generalize cmpF (key q) t = c at hcl hc1
    generalize key q = kq at hks hc1
    obtain ⟨z0, z1, z2, hz⟩ := he q
    rw [hz] at hcl ⊢
    conv => arg 4; cbv
    refine meanE_call hω (r := iV c) ?_ ?_ ?_
    · simpa [agg, iV, iC] using hcl
    · simp
    conv => arg 4; cbv
    split
    · rename_i h2
      simp only [h2]
      simp only [bIf_rec, pIf_rec, bNot_rec, hb, hi, hp, Int.ofNat_eq_natCast] at h2
      simp at h2
      conv => arg 4; cbv
      refine roundG_next (m + 1, j) ?_ ?_ ?_ hH ?_ ?_
      · (conv => lhs; cbv); (conv => rhs; cbv); simp only [show (oi fun _ => IntKind.wrap .i64 (x m + 1)) = x (m + 1) from by rw [hi, hx, hx, wrap_i64 (by omega)]; push_cast; omega]
      · refine ⟨by simp only; omega, hjn, fun n k hn hk => ?_, hhi⟩
        simp only at hn
        by_cases hnm : n = m
        · subst hnm; rw [hks] at hk; cases hk; exact hc1.1 h2
        · have := hg.lt (show n < m by omega) hk hks
          have := hc1.1 h2
          omega
      · simp only; omega
      · simp [FgtOk, undT, undEs, undEs.undRows, undL, AV.und]; exact hcaps
      · trivial
    · rename_i h2
      simp only [h2]
      simp only [bIf_rec, pIf_rec, bNot_rec, hb, hi, hp, Int.ofNat_eq_natCast] at h2
      simp at h2
      conv => arg 4; cbv
      refine roundG_next (i, m) ?_ ?_ ?_ hH ?_ ?_
      · (conv => lhs; cbv); (conv => rhs; cbv); try simp only [hmid]
      · refine ⟨by simp only; omega, by simp only; omega, hlo, fun n k hn hk => ?_⟩
        simp only at hn
        have hle : t ≤ kq := by
          by_cases hlt : kq < t
          · have := hc1.2 hlt; omega
          · omega
        by_cases hnm : n = m
        · subst hnm; rw [hks] at hk; cases hk; exact hle
        · have := hg.lt (show m < n by omega) hks hk
          omega
      · simp only; omega
      · simp [FgtOk, undT, undEs, undEs.undRows, undL, AV.und]; exact hcaps
      · trivial
  · rename_i h
    simp only [h]
    simp only [bIf_rec, pIf_rec, bNot_rec, hb, hi, hp, Int.ofNat_eq_natCast] at h
    simp at h
    conv => arg 4; cbv
    refine roundG_out hω ?_ (fun h => by cases h) ?_
    · obtain rfl : i = j := by omega
      conv => arg 4; cbv
      split
      · rename_i h2
        simp only [h2]
        simp only [bIf_rec, pIf_rec, bNot_rec, hb, hi, hp, Int.ofNat_eq_natCast] at h2
        simp at h2
        conv => arg 4; cbv
        refine elemM hω hrows ?_ ?_ (fun _ => hsz _) ?_ fun q hq => ?_
        · omega
        · omega
        · simp
        have hq' : l[i]? = some q := by rw [← hq, hxi]; rfl
        have hcl := hcmp i q hq'
        have hks := hkey i q hq'
        have hc1 := cmpF_eq (key q) t
        generalize cmpF (key q) t = c at hcl hc1
        generalize key q = kq at hks hc1
        obtain ⟨z0, z1, z2, hz⟩ := he q
        rw [hz] at hcl ⊢
        conv => arg 4; cbv
        refine meanE_callG hω (r := iV c) ?_ ?_ ?_
        · simpa [agg, iV, iC] using hcl
        · simp
        conv => arg 4; cbv
        refine meanE_fin hω (x i, ob fun _ => c == 0) (by (conv => lhs; cbv); all_goals rfl) ⟨rfl, rfl⟩ ⟨i, hxi, by omega, hlo, hhi, ?_⟩ hH ?_ ?_
        · simp only [hb]
          rw [hks]
          simp [hc1]
        · simp
        · simp
      · rename_i h2
        simp only [h2]
        simp only [bIf_rec, pIf_rec, bNot_rec, hb, hi, hp, Int.ofNat_eq_natCast] at h2
        simp at h2
        conv => arg 4; cbv
        refine meanE_fin hω (x i, false) (by (conv => lhs; cbv); all_goals rfl) ⟨rfl, rfl⟩ ⟨i, hxi, by omega, hlo, hhi, ?_⟩ hH ?_ ?_
        · rw [List.getElem?_eq_none (by omega)]; simp
        · simp
        · simp
    · trivial

theorem bsearchUnw_ok {τ : Type} (l : List τ) (e : τ → List CV) (rows : List (List CV)) (hrows : rows = l.map e) (hsz : ∀ x, (e x).length = 4) (he : ∀ x, ∃ z0 z1 z2 z3, e x = [z0, z1, z2, z3]) (key : τ → Int) (hg : Grows (l.map key)) (t : Int) (f : FuncId) (caps : List AV) (H : List Ent) (hH : ∀ e ∈ H, Ent.und H.length e) (hcaps : undL H.length caps) (hlen : l.length ≤ 1048576)
    (hcmp : ∀ (i : Nat) x, l[i]? = some x → PCalls P f (agg (e x) :: iV t :: caps) H (iV (cmpF (key x) t))) : ∃ v : Int × Bool, (∃ i : Nat, v.1 = i ∧ Bs (l.map key) t i v.2) ∧ PCalls P 56 [.c (.sl rows), iV t, .fn f caps] H (.tu [iV v.1, bV v.2]) := by
  have hll : rows.length = l.length := by rw [hrows]; simp
  have hkey : ∀ (i : Nat) q, l[i]? = some q → (l.map key)[i]? = some (key q) := fun i q h => by simp [h]
  have hkl : (l.map key).length = l.length := by simp
  generalize l.map key = ks at hg hkey hkl
  obtain ⟨x, hx⟩ := counter 0
  obtain ⟨oi, ob, op, os, on, or_, om, hω⟩ := shields
  have hi : ∀ f, oi f = f () := hω.i
  have hb : ∀ f, ob f = f () := hω.b
  have hp : ∀ f, op f = f () := hω.p
  have hs : ∀ f, os f = f () := hω.s
  have hr : ∀ f, or_ f = f () := hω.r
  refine PCalls.runE hmix hω q_slices_BinarySearchFunc_api_UnwindRow_api_UnwindRow_int ?_
  unfold c_slices_BinarySearchFunc_api_UnwindRow_api_UnwindRow_int
  conv => arg 4; cbv
  refine meanE_loopG hω [0, 1, 2, 8, 9, 10] 0 (fun y : Nat × Nat => { t := slots 49 [(0, .c (.sl rows)), (1, iV t), (2, .fn f caps), (8, iV (oi fun _ => Int.ofNat rows.length)), (9, iV (x y.1)), (10, iV (x y.2))], B := H, L := [] }) (fun y => y.1 ≤ y.2 ∧ y.2 ≤ l.length ∧ (∀ (j : Nat) k, j < y.1 → ks[j]? = some k → k < t) ∧ (∀ (j : Nat) k, y.2 ≤ j → ks[j]? = some k → t ≤ k)) (fun y => y.2 - y.1) (0, l.length) ?_ ⟨Nat.zero_le _, Nat.le_refl _, fun j k hj => by omega, fun j k hj hk => by have := (List.getElem?_eq_some_iff.1 hk).1; omega⟩ hH ?_ ?_ ?_
  · (conv => lhs; cbv); (conv => rhs; cbv); rw [show x 0 = 0 from hx 0, show x l.length = (oi fun _ => Int.ofNat rows.length) from by rw [hx, hi, hll]; simp]
  · simp [FgtOk, undT, undEs, undEs.undRows, undL, AV.und]; exact hcaps
  · trivial
  rintro ⟨i, j⟩ ⟨hij, hjn, hlo, hhi⟩
  simp only at hij hjn hlo hhi
  have hxi : x i = i := by rw [hx]; omega
  have hxj : x j = j := by rw [hx]; omega
  simp only
  conv => arg 4; cbv
  split
  · rename_i h
    simp only [h]
    simp only [bIf_rec, pIf_rec, bNot_rec, hb, hi, hp, Int.ofNat_eq_natCast] at h
    simp at h
    conv => arg 4; cbv
    have hmid : (oi fun _ => IntKind.i64.wrap (oi fun _ => (oi fun _ => IntKind.u64.wrap (oi fun _ => IntKind.i64.wrap (x i + x j))).fdiv (2 ^ min (Int.toNat 1) IntKind.u64.bits))) = x ((i + j) / 2) := by
      simp only [hi]
      rw [wrap_i64 (n := x i + x j) (by omega), wrap_u64 (n := x i + x j) (by omega), show min (Int.toNat 1) IntKind.u64.bits = 1 from rfl, Int.fdiv_eq_ediv_of_nonneg _ (by omega), hxi, hxj, hx, wrap_i64 (by omega)]
      omega
    have hxm : x ((i + j) / 2) = ((i + j) / 2 : Nat) := by rw [hx]; omega
    rw [hmid]
    have hm1 : i ≤ (i + j) / 2 := by omega
    have hm2 : (i + j) / 2 < j := by omega
    generalize (i + j) / 2 = m at hxm hm1 hm2
    refine elemM hω hrows ?_ ?_ (fun _ => hsz _) ?_ fun q hq => ?_
    · omega
    · omega
    · simp only [bIf_rec, pIf_rec, bNot_rec, hb, hi, hp, Int.ofNat_eq_natCast]; simp
    have hq' : l[m]? = some q := by rw [← hq, hxm]; rfl
    have hcl := hcmp m q hq'
    have hks := hkey m q hq'
    have hc1 := cmpF_lt (key q) t
    generalize cmpF (key q) t = c at hcl hc1
    generalize key q = kq at hks hc1
    obtain ⟨z0, z1, z2, z3, hz⟩ := he q
    rw [hz] at hcl ⊢
    conv => arg 4; cbv
    refine meanE_call hω (r := iV c) ?_ ?_ ?_
    · simpa [agg, iV, iC] using hcl
    · simp
    conv => arg 4; cbv
    split
    · rename_i h2
      simp only [h2]
      simp only [bIf_rec, pIf_rec, bNot_rec, hb, hi, hp, Int.ofNat_eq_natCast] at h2
      simp at h2
      conv => arg 4; cbv
      refine roundG_next (m + 1, j) ?_ ?_ ?_ hH ?_ ?_
      · (conv => lhs; cbv); (conv => rhs; cbv); simp only [show (oi fun _ => IntKind.wrap .i64 (x m + 1)) = x (m + 1) from by rw [hi, hx, hx, wrap_i64 (by omega)]; push_cast; omega]
      · refine ⟨by simp only; omega, hjn, fun n k hn hk => ?_, hhi⟩
        simp only at hn
        by_cases hnm : n = m
        · subst hnm; rw [hks] at hk; cases hk; exact hc1.1 h2
        · have := hg.lt (show n < m by omega) hk hks
          have := hc1.1 h2
          omega
      · simp only; omega
      · simp [FgtOk, undT, undEs, undEs.undRows, undL, AV.und]; exact hcaps
      · trivial
    · rename_i h2
      simp only [h2]
      simp only [bIf_rec, pIf_rec, bNot_rec, hb, hi, hp, Int.ofNat_eq_natCast] at h2
      simp at h2
      conv => arg 4; cbv
      refine roundG_next (i, m) ?_ ?_ ?_ hH ?_ ?_
      · (conv => lhs; cbv); (conv => rhs; cbv); try simp only [hmid]
      · refine ⟨by simp only; omega, by simp only; omega, hlo, fun n k hn hk => ?_⟩
        simp only at hn
        have hle : t ≤ kq := by
          by_cases hlt : kq < t
          · have := hc1.2 hlt; omega
          · omega
        by_cases hnm : n = m
        · subst hnm; rw [hks] at hk; cases hk; exact hle
        · have := hg.lt (show m < n by omega) hks hk
          omega
      · simp only; omega
      · simp [FgtOk, undT, undEs, undEs.undRows, undL, AV.und]; exact hcaps
      · trivial
  · rename_i h
    simp only [h]
    simp only [bIf_rec, pIf_rec, bNot_rec, hb, hi, hp, Int.ofNat_eq_natCast] at h
    simp at h
    conv => arg 4; cbv
    refine roundG_out hω ?_ (fun h => by cases h) ?_
    · obtain rfl : i = j := by omega
      conv => arg 4; cbv
      split
      · rename_i h2
        simp only [h2]
        simp only [bIf_rec, pIf_rec, bNot_rec, hb, hi, hp, Int.ofNat_eq_natCast] at h2
        simp at h2
        conv => arg 4; cbv
        refine elemM hω hrows ?_ ?_ (fun _ => hsz _) ?_ fun q hq => ?_
        · omega
        · omega
        · simp
        have hq' : l[i]? = some q := by rw [← hq, hxi]; rfl
        have hcl := hcmp i q hq'
        have hks := hkey i q hq'
        have hc1 := cmpF_eq (key q) t
        generalize cmpF (key q) t = c at hcl hc1
        generalize key q = kq at hks hc1
        obtain ⟨z0, z1, z2, z3, hz⟩ := he q
        rw [hz] at hcl ⊢
        conv => arg 4; cbv
        refine meanE_callG hω (r := iV c) ?_ ?_ ?_
        · simpa [agg, iV, iC] using hcl
        · simp
        conv => arg 4; cbv
        refine meanE_fin hω (x i, ob fun _ => c == 0) (by (conv => lhs; cbv); all_goals rfl) ⟨rfl, rfl⟩ ⟨i, hxi, by omega, hlo, hhi, ?_⟩ hH ?_ ?_
        · simp only [hb]
          rw [hks]
          simp [hc1]
        · simp
        · simp
      · rename_i h2
        simp only [h2]
        simp only [bIf_rec, pIf_rec, bNot_rec, hb, hi, hp, Int.ofNat_eq_natCast] at h2
        simp at h2
        conv => arg 4; cbv
        refine meanE_fin hω (x i, false) (by (conv => lhs; cbv); all_goals rfl) ⟨rfl, rfl⟩ ⟨i, hxi, by omega, hlo, hhi, ?_⟩ hH ?_ ?_
        · rw [List.getElem?_eq_none (by omega)]; simp
        · simp
        · simp
    · trivial

end Go.Den.Z
namespace Go.Den.Z
open Go.Proofs
theorem find1_ok (q : Pag) (a : Int) : ∃ c : Int, c = cmpF q.addr a ∧ PCalls P 101 [agg q.e, iV a] [] (iV c) := by
  obtain ⟨pa, pr, pd⟩ := q
  simp only [Pag.e]
  generalize pd.map eY = rd
  obtain ⟨oi, ob, op, os, on, or_, om, hω⟩ := shields
  have hi : ∀ f, oi f = f () := hω.i
  have hb : ∀ f, ob f = f () := hω.b
  have hp : ∀ f, op f = f () := hω.p
  have hs : ∀ f, os f = f () := hω.s
  have hr : ∀ f, or_ f = f () := hω.r
  have hc0 := cmpI_ok pa a
  refine PCalls.runE hmix hω q_memory_Find_1 ?_
  unfold c_memory_Find_1
  conv => arg 4; cbv
  refine callE hω hc0 (by (try (conv => cbv)); simp [undL, AV.und, agg]) (fun v => by simp [AV.und, undL, iV, bV, fltV, agg]) ?_ fun v hv => ?_
  · simp [oConds]
  conv => arg 4; cbv
  refine meanE_fin hω v (by (conv => lhs; cbv); all_goals rfl) ⟨rfl, rfl⟩ hv (fun e he => by cases he) ?_ ?_
  · trivial
  · simp
theorem memGrows {m : List Pag} (h : MemOk m) : Grows (m.map Pag.addr) := fun j a b ha hb => by
  simp only [List.getElem?_map, Option.map_eq_some_iff] at ha hb
  obtain ⟨x, hx, rfl⟩ := ha
  obtain ⟨y, hy, rfl⟩ := hb
  exact h.srt j x y hx hy
theorem find_ok (m : List Pag) (rows : List (List CV)) (hrows : rows = m.map Pag.e) (hm : MemOk m) (a : Int) (ha : 0 ≤ a ∧ a ≤ 9223372036854775807) : ∃ v : Int × Bool, (∃ i : Nat, v.1 = i ∧ Bs (m.map Pag.addr) (a - a % 256) i v.2) ∧ PCalls P 59 [.c (.sl rows), iV a] [] (.tu [iV v.1, bV v.2]) := by
  have hbs := bsearchPag_ok m Pag.e rows hrows (fun _ => rfl) (fun _ => ⟨_, _, _, rfl⟩) Pag.addr (memGrows hm) (a - a % 256) 101 [] [] (fun e he => by cases he) trivial (by have := hm.len; omega) (fun i q hq => by
    obtain ⟨c, rfl, h⟩ := find1_ok q (a - a % 256)
    exact h)
  have hand := andNot255 ha.1 (by omega)
  obtain ⟨v, hv, hcall⟩ := hbs
  have hcall2 := ACalls.le (us := [.c (.sl rows), iV (a - a % 256), fnC 101]) hcall fun C => ⟨fun v h => h, fun v h => h, fun v h => fnC_rel h, trivial⟩
  generalize m.map Pag.addr = ks at hv ⊢
  obtain ⟨oi, ob, op, os, on, or_, om, hω⟩ := shields
  have hi : ∀ f, oi f = f () := hω.i
  have hb : ∀ f, ob f = f () := hω.b
  have hp : ∀ f, op f = f () := hω.p
  have hs : ∀ f, os f = f () := hω.s
  have hr : ∀ f, or_ f = f () := hω.r
  refine PCalls.runE hmix hω q_memory_Find ?_
  unfold c_memory_Find
  conv => arg 4; cbv
  refine meanE_call hω (r := .tu [iV v.1, bV v.2]) ?_ ?_ ?_
  · have e : (oi fun _ => bitsOf .andNot .i64 a 255) = a - a % 256 := by rw [hi, hand]
    rw [e]
    exact hcall2
  · simp [oConds]
  obtain ⟨v1, v2⟩ := v
  conv => arg 4; cbv
  refine meanE_fin hω (v1, v2) (by (conv => lhs; cbv); all_goals rfl) ⟨rfl, rfl⟩ hv (fun e he => by cases he) ?_ ?_
  · trivial
  · simp
theorem rightsAt_and0 : bitsOf .and .i64 0 1 = 0 := rfl
theorem can_ok (m : List Pag) (rows : List (List CV)) (hrows : rows = m.map Pag.e) (hm : MemOk m) (a : Int) (ha : 0 ≤ a ∧ a ≤ 4294967296) : PCalls P 44 [.c (.sl rows), iV a, iV 1] [] (bV (canAt m a 1)) := by
  suffices h : ∃ v : Bool, v = canAt m a 1 ∧ PCalls P 44 [.c (.sl rows), iV a, iV 1] [] (bV v) by
    obtain ⟨v, rfl, h⟩ := h
    exact h
  have hll : rows.length = m.length := by rw [hrows]; simp
  have hnone : pageAt m a = none → canAt m a 1 = false := fun h => by simp only [canAt, rightsAt, h, rightsAt_and0]; rfl
  have hbig : 1048576 ≤ a → pageAt m a = none := fun h => by
    unfold pageAt
    rw [List.find?_eq_none]
    intro p hp
    obtain ⟨i, hi⟩ := List.mem_iff_getElem?.1 hp
    have := (hm.pg i p hi).a
    simp
    omega
  have hsome : ∀ q, pageAt m a = some q → canAt m a 1 = (bitsOf .and .i64 q.rights 1 == 1) := fun q h => by simp only [canAt, rightsAt, h]
  have hfd := find_ok m rows hrows hm a (by omega)
  have hpg : ∀ i f, Bs (m.map Pag.addr) (a - a % 256) i f → pageAt m a = if f then m[i]? else none := fun i f h => pageAt_bs hm rfl h
  generalize canAt m a 1 = res at hnone hsome ⊢
  obtain ⟨oi, ob, op, os, on, or_, om, hω⟩ := shields
  have hi : ∀ f, oi f = f () := hω.i
  have hb : ∀ f, ob f = f () := hω.b
  have hp : ∀ f, op f = f () := hω.p
  have hs : ∀ f, os f = f () := hω.s
  have hr : ∀ f, or_ f = f () := hω.r
  refine PCalls.runE hmix hω q_memory_Can ?_
  unfold c_memory_Can
  conv => arg 4; cbv
  split
  · rename_i h
    simp only [h]
    simp only [bIf_rec, pIf_rec, bNot_rec, hb, hi, hp, Int.ofNat_eq_natCast] at h
    simp at h
    conv => arg 4; cbv
    refine meanE_fin hω false (by (conv => lhs; cbv); all_goals rfl) ⟨rfl, rfl⟩ ?_ (fun e he => by cases he) ?_ ?_
    · exact (hnone (hbig (by omega))).symm
    · simp only [bIf_rec, pIf_rec, bNot_rec, hb, hi, hp, Int.ofNat_eq_natCast]; simp
    · simp
  · rename_i h
    simp only [h]
    simp only [bIf_rec, pIf_rec, bNot_rec, hb, hi, hp, Int.ofNat_eq_natCast] at h
    simp at h
    conv => arg 4; cbv
    refine callE hω hfd (by (try (conv => cbv)); simp [undL, AV.und, agg]) (fun v => by simp [AV.und, undL, iV, bV, fltV, agg]) ?_ fun v hv => ?_
    · simp only [bIf_rec, pIf_rec, bNot_rec, hb, hi, hp, Int.ofNat_eq_natCast]; simp [oConds]
    obtain ⟨v1, v2⟩ := v
    obtain ⟨i, hv1, hbs⟩ := hv
    simp only at hv1 hbs
    have hp0 := hpg i v2 hbs
    conv => arg 4; cbv
    split
    · rename_i h2
      conv => arg 4; cbv
      have hlt : i < m.length := by
        have := hbs.f.1 rfl
        have := (List.getElem?_eq_some_iff.1 this).1
        simpa using this
      refine elemM hω hrows ?_ ?_ (fun _ => rfl) ?_ fun q hq => ?_
      · omega
      · omega
      · simp
      have hq' : m[i]? = some q := by rw [← hq, hv1]; rfl
      have hr1 := hsome q (by rw [hp0, hq']; rfl)
      obtain ⟨pa, pr, pd⟩ := q
      simp only [Pag.e] at hr1 ⊢
      generalize pd.map eY = rd
      conv => arg 4; cbv
      refine meanE_fin hω (ob fun _ => (oi fun _ => bitsOf .and .i64 pr 1) == 1) (by (conv => lhs; cbv); all_goals rfl) ⟨rfl, rfl⟩ ?_ (fun e he => by cases he) ?_ ?_
      · rw [hr1, hb, hi]
      · simp
      · simp
    · rename_i h2
      conv => arg 4; cbv
      refine meanE_fin hω false (by (conv => lhs; cbv); all_goals rfl) ⟨rfl, rfl⟩ ?_ (fun e he => by cases he) ?_ ?_
      · exact (hnone (by rw [hp0]; rfl)).symm
      · simp
      · simp
theorem byte_ok (m : List Pag) (rows : List (List CV)) (hrows : rows = m.map Pag.e) (hm : MemOk m) (a : Int) (ha : 0 ≤ a ∧ a ≤ 9223372036854775807) : PCalls P 53 [.c (.sl rows), iV a] [] (yV (byteAt m a)) := by
  suffices h : ∃ v : Int, v = byteAt m a ∧ PCalls P 53 [.c (.sl rows), iV a] [] (yV v) by
    obtain ⟨v, rfl, h⟩ := h
    exact h
  have hll : rows.length = m.length := by rw [hrows]; simp
  have hnone : pageAt m a = none → byteAt m a = 0 := fun h => by simp only [byteAt, h]
  have hsome : ∀ q, pageAt m a = some q → byteAt m a = q.data.getD (a - q.addr).toNat 0 := fun q h => by simp only [byteAt, h]
  have hfd := find_ok m rows hrows hm a (by omega)
  have hpg : ∀ i f, Bs (m.map Pag.addr) (a - a % 256) i f → pageAt m a = if f then m[i]? else none := fun i f h => pageAt_bs hm rfl h
  generalize byteAt m a = res at hnone hsome ⊢
  obtain ⟨oi, ob, op, os, on, or_, om, hω⟩ := shields
  have hi : ∀ f, oi f = f () := hω.i
  have hb : ∀ f, ob f = f () := hω.b
  have hp : ∀ f, op f = f () := hω.p
  have hs : ∀ f, os f = f () := hω.s
  have hr : ∀ f, or_ f = f () := hω.r
  refine PCalls.runE hmix hω q_memory_Byte ?_
  unfold c_memory_Byte
  conv => arg 4; cbv
  refine callE hω hfd (by (try (conv => cbv)); simp [undL, AV.und, agg]) (fun v => by simp [AV.und, undL, iV, bV, fltV, agg]) ?_ fun v hv => ?_
  · simp [oConds]
  obtain ⟨v1, v2⟩ := v
  obtain ⟨i, hv1, hbs⟩ := hv
  simp only at hv1 hbs
  have hp0 := hpg i v2 hbs
  conv => arg 4; cbv
  split
  · rename_i h2
    cases v2
    · conv => arg 4; cbv
      refine meanE_fin hω 0 (by (conv => lhs; cbv); all_goals rfl) ⟨rfl, rfl⟩ ?_ (fun e he => by cases he) ?_ ?_
      · exact (hnone (by rw [hp0]; rfl)).symm
      · simp
      · simp
    · cases h2
  · rename_i h2
    cases v2
    · cases h2
    conv => arg 4; cbv
    have hlt : i < m.length := by
      have := hbs.f.1 rfl
      have := (List.getElem?_eq_some_iff.1 this).1
      simpa using this
    refine elemM hω hrows ?_ ?_ (fun _ => rfl) ?_ fun q hq => ?_
    · omega
    · omega
    · simp
    have hq' : m[i]? = some q := by rw [← hq, hv1]; rfl
    have hr1 := hsome q (by rw [hp0, hq']; rfl)
    have hqo := hm.pg i q hq'
    have hpd := hqo.d
    have hqa : q.addr = a - a % 256 := by
      have := hbs.f.1 rfl
      rw [List.getElem?_map, hq'] at this
      exact Option.some.inj this
    have htm : a.tmod 256 = a % 256 := Int.tmod_eq_emod_of_nonneg ha.1
    obtain ⟨pa, pr, pd⟩ := q
    simp only at hpd hqa
    simp only [Pag.e] at hr1 ⊢
    obtain ⟨rd, hpr⟩ : ∃ rd, rd = pd.map eY := ⟨_, rfl⟩
    rw [← hpr]
    have hrdl : rd.length = 256 := by rw [hpr]; simp [hpd]
    conv => arg 4; cbv
    refine elemM hω hpr ?_ ?_ (fun _ => rfl) ?_ fun y hy => ?_
    · rw [hi, htm]; omega
    · rw [hi, htm]; omega
    · simp only [bIf_rec, pIf_rec, bNot_rec, hb, hi, hp, Int.ofNat_eq_natCast]; simp
    conv => arg 4; cbv
    refine meanE_fin hω y (by (conv => lhs; cbv); all_goals rfl) ⟨rfl, rfl⟩ ?_ (fun e he => by cases he) ?_ ?_
    · rw [hr1, List.getD_eq_getElem?_getD]
      rw [hi, htm] at hy
      rw [show a - pa = a % 256 by omega, hy]
      rfl
    · simp
    · simp

end Go.Den.Z
namespace Go.Den.Z
open Go.Proofs
theorem fdiv_pos' {a b : Int} (h : 0 ≤ b) : a.fdiv b = a / b := Int.fdiv_eq_ediv_of_nonneg a h
def accF (m : List Pag) (buf : List Pnd) (a : Int) : Nat → Int
  | 0 => 0
  | i + 1 => accF m buf a i + seenAt m buf (a + i) * 2 ^ (8 * i)
theorem accF_lt {m : List Pag} (h : ∀ (k : Nat) p, m[k]? = some p → LW u8r p.data) (buf : List Pnd) (a : Int) : ∀ i : Nat, ∃ n : Nat, accF m buf a i = n ∧ n < 2 ^ (8 * i)
  | 0 => ⟨0, rfl, by decide⟩
  | i + 1 => by
    obtain ⟨n, h1, h2⟩ := accF_lt h buf a i
    have hs := seenAt_u8 h buf (a + i)
    obtain ⟨s, hs1⟩ := Int.eq_ofNat_of_zero_le hs.1
    have hs2 := hs.2
    rw [hs1] at hs2
    refine ⟨n + s * 2 ^ (8 * i), ?_, ?_⟩
    · simp only [accF, h1, hs1]
      push_cast
      rfl
    · have e : (2 : Nat) ^ (8 * (i + 1)) = 256 * 2 ^ (8 * i) := by rw [show 8 * (i + 1) = 8 + 8 * i by omega, Nat.pow_add]
      rw [e]
      have h3 : s * 2 ^ (8 * i) ≤ 255 * 2 ^ (8 * i) := Nat.mul_le_mul_right _ (by omega)
      omega
theorem accF_word (m : List Pag) (buf : List Pnd) (a : Int) : accF m buf a 4 = wordAt m buf a := by
  simp only [accF, wordAt]
  simp
  omega
theorem accF_next {m : List Pag} (h : ∀ (k : Nat) p, m[k]? = some p → LW u8r p.data) (buf : List Pnd) (a : Int) (i : Nat) (hi : i < 4) : bitsOf .or .u32 (accF m buf a i) (IntKind.wrap .u32 (seenAt m buf (a + i) * 2 ^ (8 * i))) = accF m buf a (i + 1) := by
  obtain ⟨n, h1, h2⟩ := accF_lt h buf a i
  have hs := seenAt_u8 h buf (a + i)
  obtain ⟨s, hs1⟩ := Int.eq_ofNat_of_zero_le hs.1
  have hs2 := hs.2
  rw [hs1] at hs2
  simp only [accF, h1, hs1]
  exact or_byte h2 (by omega) hi

theorem get_ok (m : List Pag) (rm : List (List CV)) (hrm : rm = m.map Pag.e) (hm : MemOk m) (hmw : LW Pag.Wf m) (c : Cor) (hcw : c.Wf) (hco : c.Ok) (a : Int) (ha : 0 ≤ a ∧ a ≤ 4294967296) : PCalls P 45 [.rp [c.e] 0 0, .c (.sl rm), iV a, iV 4] [] (wV (wordAt m c.buf a)) := by
  suffices h : ∃ v : Int, v = wordAt m c.buf a ∧ PCalls P 45 [.rp [c.e] 0 0, .c (.sl rm), iV a, iV 4] [] (wV v) by
    obtain ⟨v, rfl, h⟩ := h
    exact h
  have hmd : ∀ (k : Nat) p, m[k]? = some p → LW u8r p.data := fun k p h => (hmw.2 k p h).data
  obtain ⟨acc, hacc⟩ : ∃ acc : Nat → Int, ∀ i, acc i = accF m c.buf a i := ⟨_, fun _ => rfl⟩
  have hacc4 : acc 4 = wordAt m c.buf a := by rw [hacc, accF_word]
  have hacc0 : acc 0 = 0 := by rw [hacc]; rfl
  have hnext : ∀ i : Nat, i < 4 → bitsOf .or .u32 (acc i) (IntKind.wrap .u32 (seenAt m c.buf (a + i) * 2 ^ (8 * i))) = acc (i + 1) := fun i h => by rw [hacc, hacc]; exact accF_next hmd c.buf a i h
  have hseen : ∀ i : Nat, u8r (seenAt m c.buf (a + i)) := fun i => seenAt_u8 hmd c.buf _
  rw [← hacc4]
  clear hacc hacc4
  have hbyte := fun (a : Int) (ha : 0 ≤ a ∧ a ≤ 9223372036854775807) => byte_ok m rm hrm hm a ha
  have hsn : ∀ (a : Int) (b : List Pnd), seenAt m b a = seenL b a (byteAt m a) := fun _ _ => rfl
  have h8 := hcw.regs.1
  have h16 := hcw.vecs.1
  have hbl := hco.len
  have hbo := hco.buf
  have hbw := hcw.buf.2
  obtain ⟨regs, vecs, flags, pc, tp, user, stopped, handler, cause, saved, buf⟩ := c
  simp only at h8 h16 hbl hbo hbw hseen hnext
  obtain ⟨r0, r1, r2, r3, r4, r5, r6, r7, rfl⟩ := len8 h8
  obtain ⟨v0, v1, v2, v3, v4, v5, v6, v7, v8, v9, u0, u1, u2, u3, u4, u5, rfl⟩ := len16 h16
  simp only [Cor.e, List.map_cons, List.map_nil, List.cons_append, List.nil_append]
  obtain ⟨rb, hrb⟩ : ∃ rb, rb = buf.map Pnd.e := ⟨_, rfl⟩
  rw [← hrb]
  have hrbl : rb.length = buf.length := by rw [hrb]; simp
  obtain ⟨x, hx⟩ := counter 0
  obtain ⟨oi, ob, op, os, on, or_, om, hω⟩ := shields
  have hi : ∀ f, oi f = f () := hω.i
  have hb : ∀ f, ob f = f () := hω.b
  have hp : ∀ f, op f = f () := hω.p
  have hs : ∀ f, os f = f () := hω.s
  have hr : ∀ f, or_ f = f () := hω.r
  refine PCalls.runE hmix hω q_buffer_Get ?_
  unfold c_buffer_Get
  conv => arg 4; cbv
  refine meanE_loopF hω [0, 1, 2, 9, 15, 16] 4 (fun _ => True) (fun i => [(16, iV (x i)), (9, wV (acc i))]) ?_ (fun e he => by cases he) ?_ ?_ fun i hiN _ => ?_
  · (conv => lhs; cbv); (conv => rhs; cbv); simp only [hx 0, hacc0]; rfl
  · simp [FgtOk, undT, undEs, undEs.undRows, undL, AV.und]
  · trivial
  have hxi : x i = i := by rw [hx]; omega
  conv => arg 4; cbv
  split
  · rename_i h
    simp only [h]
    simp only [bIf_rec, pIf_rec, bNot_rec, hb, hi, hp, Int.ofNat_eq_natCast] at h
    simp at h
    conv => arg 4; cbv
    have e : (oi fun _ => IntKind.i64.wrap (a + x i)) = a + i := by rw [hi, hxi, wrap_i64 (by omega)]
    have hse := hseen i
    have hnx := hnext i (by omega)
    rw [hsn] at hse hnx
    obtain ⟨ai, hai⟩ : ∃ ai : Int, ai = a + i := ⟨_, rfl⟩
    rw [← hai] at e hse hnx
    have hby := hbyte ai (by omega)
    simp only [e]
    refine meanE_call hω (hby.any (by simp [undL, AV.und, iV]) (by simp [AV.und, yV]) _) ?_ ?_
    · simp [oConds]
    generalize byteAt m ai = b0 at hse hnx hby ⊢
    obtain ⟨sb, hsb⟩ : ∃ sb : Nat → Int, ∀ j, sb j = seenL (buf.take j) ai b0 := ⟨_, fun _ => rfl⟩
    have hsb0 : sb 0 = b0 := by rw [hsb]; rfl
    have hsbN : sb buf.length = seenL buf ai b0 := by rw [hsb, List.take_length]
    have hsb1 : ∀ (j : Nat) q, buf[j]? = some q → sb (j + 1) = if pndHas q ai then pndByte q ai else sb j := fun j q h => by rw [hsb, hsb, take_snoc h, seenL_snoc]
    clear hsb
    conv => arg 4; cbv
    refine meanE_loopF hω [0, 1, 2, 9, 10, 11, 15, 16, 27, 28, 29] buf.length (fun _ => True) (fun j => [(29, iV (x j)), (11, yV (sb j))]) ?_ (fun e he => by cases he) ?_ ?_ fun j hjN _ => ?_
    · (conv => lhs; cbv); (conv => rhs; cbv); simp only [hx 0, hsb0]; rfl
    · simp [FgtOk, undT, undEs, undEs.undRows, undL, AV.und]
    · simp
    have hxj : x j = j := by rw [hx]; omega
    conv => arg 4; cbv
    split
    · rename_i h2
      simp only [h2]
      simp only [bIf_rec, pIf_rec, bNot_rec, hb, hi, hp, Int.ofNat_eq_natCast] at h2
      simp at h2
      conv => arg 4; cbv
      refine elemM hω hrb ?_ ?_ (fun _ => rfl) ?_ fun q hq => ?_
      · omega
      · omega
      · simp
      have hq' : buf[j]? = some q := by rw [← hq, hxj]; rfl
      have hqo := hbo j q hq'
      have hq1 := hqo.size
      have hq2 := hqo.a
      have hs1 := hsb1 j q hq'
      obtain ⟨qa, qs, qv⟩ := q
      simp only at hq1 hq2
      simp only [pndHas, pndByte, Bool.and_eq_true, decide_eq_true_eq] at hs1
      simp only [Pnd.e]
      conv => arg 4; cbv
      simp only [e]
      have hd := wrap_i64 (n := ai - qa) (by omega)
      split
      · rename_i h3
        simp only [h3]
        simp only [bIf_rec, pIf_rec, bNot_rec, hb, hi, hp, Int.ofNat_eq_natCast, condF, hd] at h3
        simp at h3
        have he1 : (oi fun _ => IntKind.u8.wrap (oi fun _ => qv.fdiv (2 ^ min (oi fun _ => IntKind.i64.wrap (8 * (oi fun _ => IntKind.i64.wrap (ai - qa)))).toNat IntKind.u32.bits))) = sb (j + 1) := by
          rw [hs1, if_pos (by omega)]
          simp only [hi, hd]
          rw [wrap_i64 (n := 8 * (ai - qa)) (by omega)]
          rfl
        conv => arg 4; cbv
        refine forF_next (fun _ _ => trivial) ?_ ?_ trivial (fun e he => by cases he) ?_ ?_
        · (conv => lhs; cbv); (conv => rhs; cbv); simp only [he1, show (oi fun _ => IntKind.wrap .i64 (x j + 1)) = x (j + 1) from by rw [hi, hx, hx, wrap_i64 (by omega)]; push_cast; omega]
        · omega
        · simp [FgtOk, undT, undEs, undEs.undRows, undL, AV.und]
        · simp only [bIf_rec, pIf_rec, bNot_rec, hb, hi, hp, Int.ofNat_eq_natCast, hd]
          rw [wrap_i64 (n := 8 * (ai - qa)) (by omega)]
          simp
          omega
      · rename_i h3
        simp only [h3]
        simp only [bIf_rec, pIf_rec, bNot_rec, hb, hi, hp, Int.ofNat_eq_natCast, condF, hd] at h3
        have he1 : sb j = sb (j + 1) := by
          rw [hs1, if_neg (by simp at h3; omega)]
        conv => arg 4; cbv
        refine forF_next (fun _ _ => trivial) ?_ ?_ trivial (fun e he => by cases he) ?_ ?_
        · (conv => lhs; cbv); (conv => rhs; cbv); simp only [← he1, show (oi fun _ => IntKind.wrap .i64 (x j + 1)) = x (j + 1) from by rw [hi, hx, hx, wrap_i64 (by omega)]; push_cast; omega]
        · omega
        · simp [FgtOk, undT, undEs, undEs.undRows, undL, AV.und]
        · simp only [bIf_rec, pIf_rec, bNot_rec, hb, hi, hp, Int.ofNat_eq_natCast]; simp
    · rename_i h2
      simp only [h2]
      simp only [bIf_rec, pIf_rec, bNot_rec, hb, hi, hp, Int.ofNat_eq_natCast] at h2
      simp at h2
      conv => arg 4; cbv
      refine roundG_out hω ?_ (fun h => by cases h) ?_
      · conv => arg 4; cbv
        have hjN2 : sb j = seenL buf ai b0 := by rw [show j = buf.length by omega, hsbN]
        have he2 : (oi fun _ => bitsOf .or .u32 (acc i) (oi fun _ => IntKind.u32.wrap ((oi fun _ => IntKind.u32.wrap (sb j)) * 2 ^ min (oi fun _ => IntKind.i64.wrap (8 * x i)).toNat IntKind.u32.bits))) = acc (i + 1) := by
          simp only [hi]
          rw [hjN2, wrap_i64 (n := 8 * x i) (by omega), show min (8 * x i).toNat IntKind.u32.bits = 8 * i from by simp only [IntKind.bits]; omega, wrap_u32 (n := seenL buf ai b0) (by have := hse; unfold u8r at this; omega)]
          exact hnx
        refine forF_next (fun _ _ => trivial) ?_ ?_ trivial (fun e he => by cases he) ?_ ?_
        · (conv => lhs; cbv); (conv => rhs; cbv); simp only [he2, show (oi fun _ => IntKind.wrap .i64 (x i + 1)) = x (i + 1) from by rw [hi, hx, hx, wrap_i64 (by omega)]; push_cast; omega]
        · omega
        · simp [FgtOk, undT, undEs, undEs.undRows, undL, AV.und]
        · simp only [bIf_rec, pIf_rec, bNot_rec, hb, hi, hp, Int.ofNat_eq_natCast]
          rw [wrap_i64 (n := 8 * x i) (by omega)]
          simp
          omega
      · trivial
  · rename_i h
    simp only [h]
    simp only [bIf_rec, pIf_rec, bNot_rec, hb, hi, hp, Int.ofNat_eq_natCast] at h
    simp at h
    conv => arg 4; cbv
    refine roundG_out hω ?_ (fun h => by cases h) ?_
    · conv => arg 4; cbv
      refine meanE_fin hω (acc i) (by (conv => lhs; cbv); all_goals rfl) ⟨rfl, rfl⟩ ?_ (fun e he => by cases he) ?_ ?_
      · rw [show i = 4 by omega]
      · simp
      · simp
    · trivial

end Go.Den.Z
namespace Go.Den.Z
open Go.Proofs
def optR (o : Option Int) : Int × Bool := match o with | some w => (w, true) | none => (0, false)
theorem word_ok (m : List Pag) (cs : List Cor) (rl rm rc ro : List (List CV)) (hrm : rm = m.map Pag.e) (hrc : rc = cs.map Cor.e) (hm : MemOk m) (hmw : LW Pag.Wf m) (hcw : LW Cor.Wf cs) (hco : ∀ (k : Nat) c, cs[k]? = some c → c.Ok) (lz : Bool) (k : Int) (c : Cor) (hk0 : 0 ≤ k) (hk : cs[k.toNat]? = some c) (a : Int) (ha : u32r a) : ∃ v : Int × Bool, v = optR (wordOf m c.buf a) ∧ PCalls P 27 [agg [.sl rl, .sl rm, .sl rc, .sl ro, bC lz], iV k, wV a] [] (.tu [wV v.1, bV v.2]) := by
  have hcan := can_ok m rm hrm hm a (by unfold u32r at ha; omega)
  have hkw := hcw.2 _ _ hk
  have hko := hco _ _ hk
  have hget := get_ok m rm hrm hm hmw c hkw hko a (by unfold u32r at ha; omega)
  have hklt := (List.getElem?_eq_some_iff.1 hk).1
  have hrk : rc[k.toNat]? = some c.e := by rw [hrc]; simp [hk]
  have hcl : c.e.length = 33 := by simp [Cor.e, hkw.regs.1, hkw.vecs.1]
  have hres : optR (wordOf m c.buf a) = if a % 4 = 0 ∧ canAt m a 1 = true then (wordAt m c.buf a, true) else (0, false) := by
    unfold wordOf; split <;> rfl
  have h8 := hkw.regs.1
  have h16 := hkw.vecs.1
  unfold u32r at ha
  generalize wordAt m c.buf a = w at hget hres
  generalize canAt m a 1 = cb at hcan hres
  generalize optR (wordOf m c.buf a) = res at hres ⊢
  have hres1 : a % 4 = 0 → cb = true → res = (w, true) := fun h1 h2 => by rw [hres, if_pos ⟨h1, h2⟩]
  have hres2 : ¬ (a % 4 = 0 ∧ cb = true) → res = (0, false) := fun h1 => by rw [hres, if_neg h1]
  clear hres
  have ht : a.tmod 4 = a % 4 := Int.tmod_eq_emod_of_nonneg ha.1
  have hw := wrap_i64 (n := a) (by omega)
  obtain ⟨oi, ob, op, os, on, or_, om, hω⟩ := shields
  have hi : ∀ f, oi f = f () := hω.i
  have hb : ∀ f, ob f = f () := hω.b
  have hp : ∀ f, op f = f () := hω.p
  have hs : ∀ f, os f = f () := hω.s
  have hr : ∀ f, or_ f = f () := hω.r
  have e : (oi fun _ => IntKind.i64.wrap a) = a := by rw [hi, hw]
  refine PCalls.runE hmix hω q_frames_word ?_
  unfold c_frames_word
  conv => arg 4; cbv
  simp only [e]
  have key : ∀ (Gd : Prop), True := fun _ => trivial
  split
  · rename_i h
    simp only [h]
    have hm4 : a % 4 = 0 := by
      simp only [bIf_rec, pIf_rec, bNot_rec, hb, hi, hp, Int.ofNat_eq_natCast] at h
      simp at h
      omega
    conv => arg 4; cbv
    refine meanE_callG hω (hcan.any (by simp [undL, AV.und, iV]) (by simp [AV.und, bV]) _) ?_ ?_
    · simp only [bIf_rec, pIf_rec, bNot_rec, hb, hi, hp, Int.ofNat_eq_natCast]; simp [oConds, h, strip, St.ev, ht, hm4]
    conv => arg 4; cbv
    split
    · rename_i h2
      simp only [h2]
      have hcb : cb = false := by
        simp only [bIf_rec, pIf_rec, bNot_rec, hb, hi, hp, Int.ofNat_eq_natCast, condT] at h2
        simp [ht, hm4] at h2
        exact h2
      conv => arg 4; cbv
      refine meanE_fin hω (0, false) (by (conv => lhs; cbv); all_goals rfl) ⟨rfl, rfl⟩ ?_ (fun e he => by cases he) ?_ ?_
      · exact (hres2 (by simp [hcb])).symm
      · simp only [bIf_rec, pIf_rec, bNot_rec, hb, hi, hp, Int.ofNat_eq_natCast]; simp [ht, hm4]
      · simp
    · rename_i h2
      simp only [h2]
      have hcb : cb = true := by
        simp only [bIf_rec, pIf_rec, bNot_rec, hb, hi, hp, Int.ofNat_eq_natCast, condT] at h2
        simp [ht, hm4] at h2
        exact h2
      conv => arg 4; cbv
      refine meanE_elem hω _ hk0 hrk hcl ?_ ?_
      · simp only [bIf_rec, pIf_rec, bNot_rec, hb, hi, hp, Int.ofNat_eq_natCast]; simp [ht, hm4]
      obtain ⟨regs, vecs, flags, pc, tp, user, stopped, handler, cause, saved, buf⟩ := c
      simp only at h8 h16
      obtain ⟨r0, r1, r2, r3, r4, r5, r6, r7, rfl⟩ := len8 h8
      obtain ⟨v0, v1, v2, v3, v4, v5, v6, v7, v8, v9, u0, u1, u2, u3, u4, u5, rfl⟩ := len16 h16
      simp only [Cor.e, List.map_cons, List.map_nil, List.cons_append, List.nil_append] at hget ⊢
      generalize buf.map Pnd.e = rb at hget ⊢
      conv => arg 4; cbv
      refine meanE_callQ hω (hget.any (by simp [undL, AV.und, iV]) (by simp [AV.und, wV]) _) ?_ ?_
      · simp [oConds]
      conv => arg 4; cbv
      refine meanE_fin hω (w, true) (by (conv => lhs; cbv); all_goals rfl) ⟨rfl, rfl⟩ ?_ (fun e he => by cases he) ?_ ?_
      · exact (hres1 hm4 hcb).symm
      · simp
      · simp
  · rename_i h
    simp only [h]
    have hm4 : ¬ a % 4 = 0 := by
      simp only [bIf_rec, pIf_rec, bNot_rec, hb, hi, hp, Int.ofNat_eq_natCast] at h
      simp at h
      omega
    conv => arg 4; cbv
    split
    · rename_i h3
      exfalso
      simp only [bIf_rec, pIf_rec, bNot_rec, hb, hi, hp, Int.ofNat_eq_natCast] at h h3
      simp_all
    rename_i h3
    conv => arg 4; cbv
    refine meanE_fin hω (0, false) (by (conv => lhs; cbv); all_goals rfl) ⟨rfl, rfl⟩ ?_ (fun e he => by cases he) ?_ ?_
    · exact (hres2 (by simp [hm4])).symm
    · simp only [bIf_rec, pIf_rec, bNot_rec, hb, hi, hp, Int.ofNat_eq_natCast] at h ⊢; simp at h ⊢; first | omega | (simp [h]; done)
    · simp

end Go.Den.Z
namespace Go.Den.Z
open Go.Proofs
theorem rowOff_ok (q : UnwR) : PCalls P 43 [agg q.e] [] (iV q.off) := by
  suffices h : ∃ v : Int, v = q.off ∧ PCalls P 43 [agg q.e] [] (iV v) by
    obtain ⟨v, rfl, h⟩ := h
    exact h
  obtain ⟨qo, qr, qa, qs⟩ := q
  simp only [UnwR.e]
  obtain ⟨oi, ob, op, os, on, or_, om, hω⟩ := shields
  have hi : ∀ f, oi f = f () := hω.i
  have hb : ∀ f, ob f = f () := hω.b
  have hp : ∀ f, op f = f () := hω.p
  have hs : ∀ f, os f = f () := hω.s
  have hr : ∀ f, or_ f = f () := hω.r
  refine PCalls.runE hmix hω q_unwind_Row_1 ?_
  unfold c_unwind_Row_1
  conv => arg 4; cbv
  refine meanE_fin hω qo (by (conv => lhs; cbv); all_goals rfl) ⟨rfl, rfl⟩ rfl (fun e he => by cases he) ?_ ?_
  · simp
  · simp
theorem cmpRow_ok (q : UnwR) (a : Int) : PCalls P 57 [agg q.e, iV a, .op 0 0 0] [.mem 1 [[fnC 43]]] (iV (cmpF q.off a)) := by
  suffices h : ∃ v : Int, v = cmpF q.off a ∧ PCalls P 57 [agg q.e, iV a, .op 0 0 0] [.mem 1 [[fnC 43]]] (iV v) by
    obtain ⟨v, rfl, h⟩ := h
    exact h
  have hB : ∀ e ∈ [Ent.mem 1 [[fnC 43]]], Ent.und 1 e := by
    intro e he
    simp at he
    subst he
    simp [Ent.und, undL, AV.und, fnC]
  have hro := rowOff_ok q
  have hc0 : ∃ c : Int, c = cmpF q.off a ∧ PCalls P 58 [iV q.off, iV a] [] (iV c) := cmpI_ok q.off a
  generalize cmpF q.off a = res at hc0 ⊢
  obtain ⟨qo, qr, qa, qs⟩ := q
  simp only [UnwR.e] at hro hc0 ⊢
  unfold fnC at hB ⊢
  obtain ⟨oi, ob, op, os, on, or_, om, hω⟩ := shields
  have hi : ∀ f, oi f = f () := hω.i
  have hb : ∀ f, ob f = f () := hω.b
  have hp : ∀ f, op f = f () := hω.p
  have hs : ∀ f, os f = f () := hω.s
  have hr : ∀ f, or_ f = f () := hω.r
  refine PCalls.runE hmix hω q_lines_At_api_UnwindRow_1 ?_
  unfold c_lines_At_api_UnwindRow_1
  conv => arg 4; cbv
  refine meanE_call hω (hro.any (by simp [undL, AV.und, agg]) (by simp [AV.und, iV]) _) ?_ ?_
  · simp [oConds, strip, St.ev]
  conv => arg 4; cbv
  refine callE hω hc0 (by (try (conv => cbv)); simp [undL, AV.und, agg]) (fun v => by simp [AV.und, undL, iV, bV, fltV, agg]) ?_ fun v hv => ?_
  · simp [oConds, strip, St.ev]
  conv => arg 4; cbv
  refine meanE_fin hω v (by (conv => lhs; cbv); all_goals rfl) ⟨rfl, rfl⟩ hv hB ?_ ?_
  · simp
  · simp
theorem lastAt_ok (l : List UnwR) (rows : List (List CV)) (hrows : rows = l.map UnwR.e) (hg : Grows (l.map UnwR.off)) (hl : l.length ≤ 1048576) (a : Int) : ∃ v : Int, (∃ (i : Nat) (f : Bool), Bs (l.map UnwR.off) a i f ∧ v = if f = true then (i : Int) else i - 1) ∧ PCalls P 42 [.c (.sl rows), iV a, fnC 43] [] (iV v) := by
  have hB : ∀ e ∈ [Ent.mem 1 [[fnC 43]]], Ent.und 1 e := by
    intro e he
    simp at he
    subst he
    simp [Ent.und, undL, AV.und, fnC]
  have hbs := bsearchUnw_ok l UnwR.e rows hrows (fun _ => rfl) (fun _ => ⟨_, _, _, _, rfl⟩) UnwR.off hg a 57 [.op 0 0 0] [.mem 1 [[fnC 43]]] hB (by simp [undL, AV.und]) hl (fun i q hq => cmpRow_ok q a)
  obtain ⟨⟨v1, v2⟩, ⟨i, hv, hbs⟩, hcall⟩ := hbs
  simp only at hv hbs hcall
  have hil : i ≤ 1048576 := by have := hbs.le; simp at this; omega
  have hF : (if v2 = true then (i : Int) else i - 1) = (if v2 = true then (i : Int) else i - 1) := rfl
  unfold fnC at hcall ⊢
  obtain ⟨oi, ob, op, os, on, or_, om, hω⟩ := shields
  have hi : ∀ f, oi f = f () := hω.i
  have hb : ∀ f, ob f = f () := hω.b
  have hp : ∀ f, op f = f () := hω.p
  have hs : ∀ f, os f = f () := hω.s
  have hr : ∀ f, or_ f = f () := hω.r
  refine PCalls.runE hmix hω q_lines_At_api_UnwindRow ?_
  unfold c_lines_At_api_UnwindRow
  conv => arg 4; cbv
  refine meanE_call hω (r := .tu [iV v1, bV v2]) ?_ ?_ ?_
  · simpa [iV, iC] using hcall
  · simp [oConds, strip, St.ev]
  conv => arg 4; cbv
  split
  · conv => arg 4; cbv
    refine meanE_fin hω v1 (by (conv => lhs; cbv); all_goals rfl) ⟨rfl, rfl⟩ ⟨i, true, hbs, by rw [if_pos rfl, hv]⟩ (fun e he => by cases he) ?_ ?_
    · simp
    · simp
  · conv => arg 4; cbv
    refine meanE_fin hω (oi fun _ => IntKind.wrap .i64 (v1 - 1)) (by (conv => lhs; cbv); all_goals rfl) ⟨rfl, rfl⟩ ⟨i, false, hbs, by rw [hi, wrap_i64 (by omega), hv]; simp⟩ (fun e he => by cases he) ?_ ?_
    · simp
    · simp
def rowR (l : List UnwR) (a : Int) : UnwR × Bool := match rowAt l a with
  | some r => (r, true)
  | none => (⟨0, 0, 0, 0⟩, false)
theorem row_ok (l : List UnwR) (rows : List (List CV)) (hrows : rows = l.map UnwR.e) (hg : Grows (l.map UnwR.off)) (hl : l.length ≤ 1048576) (a : Int) : PCalls P 26 [.c (.sl rows), iV a] [] (.tu [agg (rowR l a).1.e, bV (rowR l a).2]) := by
  suffices h : ∃ v : UnwR × Bool, v = rowR l a ∧ PCalls P 26 [.c (.sl rows), iV a] [] (.tu [agg v.1.e, bV v.2]) by
    obtain ⟨v, rfl, h⟩ := h
    exact h
  have hll : rows.length = l.length := by rw [hrows]; simp
  have hat := lastAt_ok l rows hrows hg hl a
  unfold fnC at hat
  have h0 : rowAt l a = none → rowR l a = (⟨0, 0, 0, 0⟩, false) := fun h => by unfold rowR; rw [h]
  have h1 : ∀ r, rowAt l a = some r → rowR l a = (r, true) := fun r h => by unfold rowR; rw [h]
  generalize rowR l a = res at h0 h1 ⊢
  obtain ⟨oi, ob, op, os, on, or_, om, hω⟩ := shields
  have hi : ∀ f, oi f = f () := hω.i
  have hb : ∀ f, ob f = f () := hω.b
  have hp : ∀ f, op f = f () := hω.p
  have hs : ∀ f, os f = f () := hω.s
  have hr : ∀ f, or_ f = f () := hω.r
  refine PCalls.runE hmix hω q_unwind_Row ?_
  unfold c_unwind_Row
  conv => arg 4; cbv
  refine callE hω hat (by (try (conv => cbv)); simp [undL, AV.und, agg]) (fun v => by simp [AV.und, undL, iV, bV, fltV, agg]) ?_ fun v hv => ?_
  · simp [oConds, strip, St.ev]
  obtain ⟨i, f, hbs, hv⟩ := hv
  have hra := rowAt_bs hg hbs
  conv => arg 4; cbv
  split
  · rename_i h
    simp only [h]
    simp only [bIf_rec, pIf_rec, bNot_rec, hb, hi, hp, Int.ofNat_eq_natCast] at h
    simp at h
    conv => arg 4; cbv
    refine meanE_fin hω (⟨0, 0, 0, 0⟩, false) (by (conv => lhs; cbv); all_goals rfl) ⟨rfl, rfl⟩ ?_ (fun e he => by cases he) ?_ ?_
    · refine (h0 ?_).symm
      rw [hra]
      cases f
      · simp only [Bool.false_eq_true, if_false] at hv ⊢
        rw [if_pos (by omega)]
      · simp only [if_true] at hv
        omega
    · simp
    · simp
  · rename_i h
    simp only [h]
    simp only [bIf_rec, pIf_rec, bNot_rec, hb, hi, hp, Int.ofNat_eq_natCast] at h
    simp at h
    conv => arg 4; cbv
    have hget : ∃ q, l[v.toNat]? = some q ∧ rowAt l a = some q := by
      rw [hra]
      cases f
      · simp only [Bool.false_eq_true, if_false] at hv ⊢
        rw [if_neg (by omega), show i - 1 = v.toNat by omega]
        have : v.toNat < l.length := by have := hbs.le; simp at this; omega
        exact ⟨l[v.toNat], by simp [this], by simp [this]⟩
      · simp only [if_true] at hv ⊢
        have h3 := hbs.f.1 rfl
        rw [List.getElem?_map] at h3
        cases hq : l[i]? with
        | none => rw [hq] at h3; simp at h3
        | some q => exact ⟨q, by rw [show v.toNat = i by omega, hq], rfl⟩
    obtain ⟨q0, hq0, hra0⟩ := hget
    have hlt := (List.getElem?_eq_some_iff.1 hq0).1
    refine elemM hω hrows ?_ ?_ (fun _ => rfl) ?_ fun q hq => ?_
    · omega
    · omega
    · simp
    obtain rfl : q0 = q := Option.some.inj (hq0.symm.trans hq)
    have h1' := h1 q0 hra0
    obtain ⟨qo, qr, qa, qs⟩ := q0
    simp only [UnwR.e]
    conv => arg 4; cbv
    refine meanE_fin hω (⟨qo, qr, qa, qs⟩, true) (by (conv => lhs; cbv); all_goals rfl) ⟨rfl, rfl⟩ h1'.symm (fun e he => by cases he) ?_ ?_
    · simp
    · simp

end Go.Den.Z
namespace Go.Den.Z
open Go.Proofs
theorem code_ok (l : List Ldd) (rl rm rc ro : List (List CV)) (hrl : rl = l.map Ldd.e) (hl : l.length ≤ 1048576) (ho : ∀ (k : Nat) d, l[k]? = some d → d.Ok) (hwl : LW Ldd.Wf l) (lz : Bool) (a : Int) (ha : -1 ≤ a ∧ a ≤ 4294967296) : ∃ v : Int × Int × Bool, v = codeR l a ∧ PCalls P 17 [agg [.sl rl, .sl rm, .sl rc, .sl ro, bC lz], iV a] [] (.tu [iV v.1, iV v.2.1, bV v.2.2]) := by
  have hll : rl.length = l.length := by rw [hrl]; simp
  obtain ⟨x, hx⟩ := counter 0
  obtain ⟨oi, ob, op, os, on, or_, om, hω⟩ := shields
  have hi : ∀ f, oi f = f () := hω.i
  have hb : ∀ f, ob f = f () := hω.b
  have hp : ∀ f, op f = f () := hω.p
  have hs : ∀ f, os f = f () := hω.s
  have hr : ∀ f, or_ f = f () := hω.r
  refine PCalls.runE hmix hω q_frames_Code ?_
  unfold c_frames_Code
  conv => arg 4; cbv
  refine meanE_loopF hω [1, 13, 14, 15] l.length (fun i => ∀ q, l[i]? = some q → lddAt q a = false) (fun i => [(15, iV (x i))]) ?_ (fun e he => by cases he) ?_ ?_ fun i hiN hok => ?_
  · (conv => lhs; cbv); (conv => rhs; cbv); simp only [hx 0]; rfl
  · simp [FgtOk, undT, undEs, undEs.undRows, undL, AV.und]
  · trivial
  have hxi : x i = i := by rw [hx]; omega
  conv => arg 4; cbv
  split
  · rename_i h
    simp only [h]
    simp only [bIf_rec, pIf_rec, bNot_rec, hb, hi, hp, Int.ofNat_eq_natCast] at h
    simp at h
    conv => arg 4; cbv
    refine elemM hω hrl ?_ ?_ (fun _ => rfl) ?_ fun q hq => ?_
    · omega
    · omega
    · simp
    have hqo := ho _ _ hq
    have hqw := hwl.2 _ _ hq
    obtain ⟨im, lb, lt, lu⟩ := q
    have hsegs : im.r.segs = im.segs.map Seg.e := rfl
    have hsl := hqw.img.segs.1
    have hso := hqo.img.segs
    have hbi := hqo.bias
    simp only at hbi hsl hso
    simp only [Ldd.e]
    rw [← Img.r_e]
    generalize im.r = y at hsegs ⊢
    obtain ⟨name, shared, segs, entry, exps, imps, fixs, thr, thrSize, inits, finis, needs, id, lines, unw, files, types, vars, places⟩ := y
    simp only at hsegs
    have hsll : segs.length = im.segs.length := by rw [hsegs]; simp
    conv => arg 4; cbv
    refine meanE_loopF hω [1, 7, 9, 13, 14, 15, 26, 27, 28] im.segs.length (fun k => ∀ s, im.segs[k]? = some s → segAt s (a - lb) = false) (fun i => [(28, iV (x i))]) ?_ (fun e he => by cases he) ?_ ?_ fun j hjN hok2 => ?_
    · (conv => lhs; cbv); (conv => rhs; cbv); simp only [hx 0]; rfl
    · simp [FgtOk, undT, undEs, undEs.undRows, undL, AV.und]
    · simp
    have hxj : x j = j := by rw [hx]; omega
    conv => arg 4; cbv
    split
    · rename_i h2
      simp only [h2]
      simp only [bIf_rec, pIf_rec, bNot_rec, hb, hi, hp, Int.ofNat_eq_natCast] at h2
      simp at h2
      conv => arg 4; cbv
      refine elemM hω hsegs ?_ ?_ (fun _ => rfl) ?_ fun s hs0 => ?_
      · omega
      · omega
      · simp
      have hs1 := hso _ _ hs0
      have h1 := hs1.a0
      have h3 := hs1.s1
      have h4 := hs1.s2
      have h5 := hs1.a1
      obtain ⟨sa, sz, sr, sd⟩ := s
      simp only at h1 h3 h4 h5
      simp only [Seg.e]
      generalize sd.map eY = rd
      conv => arg 4; cbv
      have hw1 := wrap_i64 (show -9223372036854775808 ≤ a - lb ∧ a - lb ≤ 9223372036854775807 by omega)
      have hw2 := wrap_i64 (show -9223372036854775808 ≤ a - lb - sa ∧ a - lb - sa ≤ 9223372036854775807 by omega)
      split
      · rename_i h6
        simp only [h6]
        simp only [bIf_rec, pIf_rec, bNot_rec, hb, hi, hp, Int.ofNat_eq_natCast, condF, hw1, hw2] at h6
        have hsg : segAt ⟨sa, sz, sr, sd⟩ (a - lb) = true := by simpa [segAt, execS, bne] using h6
        have hca := codeAt_some hq (lddAt_true hs0 hsg) fun j' q' hj' hq' => hok j' (by omega) q' hq'
        have hcr := codeR_some hq hca
        conv => arg 4; cbv
        refine roundG_out hω ?_ (fun h => by cases h) ?_
        · conv => arg 4; cbv
          refine roundG_out hω ?_ (fun h => by cases h) ?_
          · conv => arg 4; cbv
            refine meanE_fin hω (x i, (oi fun _ => IntKind.wrap .i64 (a - lb)), true) (by (conv => lhs; cbv); all_goals rfl) ⟨rfl, rfl⟩ ?_ (fun e he => by cases he) ?_ ?_
            · rw [hcr, hi, hw1, hxi]; simp
            · trivial
            · simp
          · trivial
        · simp only [bIf_rec, pIf_rec, bNot_rec, hb, hi, hp, Int.ofNat_eq_natCast]; simp
      · rename_i h6
        simp only [h6]
        simp only [bIf_rec, pIf_rec, bNot_rec, hb, hi, hp, Int.ofNat_eq_natCast, condF, hw1, hw2] at h6
        have hsg : segAt ⟨sa, sz, sr, sd⟩ (a - lb) = false := by simpa [segAt, execS, bne] using h6
        conv => arg 4; cbv
        refine forF_next hok2 ?_ ?_ ?_ (fun e he => by cases he) ?_ ?_
        · (conv => lhs; cbv); (conv => rhs; cbv); simp only [show (oi fun _ => IntKind.wrap .i64 (x j + 1)) = x (j + 1) from by rw [hi, hx, hx, wrap_i64 (by omega)]; push_cast; omega]
        · omega
        · intro s2 hs2
          obtain rfl := Option.some.inj (hs0.symm.trans (by rw [hxj]; exact hs2))
          exact hsg
        · simp [FgtOk, undT, undEs, undEs.undRows, undL, AV.und]
        · simp only [bIf_rec, pIf_rec, bNot_rec, hb, hi, hp, Int.ofNat_eq_natCast]; simp
    · rename_i h2
      simp only [h2]
      simp only [bIf_rec, pIf_rec, bNot_rec, hb, hi, hp, Int.ofNat_eq_natCast] at h2
      simp at h2
      conv => arg 4; cbv
      refine roundG_out hω ?_ (fun h => by cases h) ?_
      · conv => arg 4; cbv
        refine forF_next hok ?_ ?_ ?_ (fun e he => by cases he) ?_ ?_
        · (conv => lhs; cbv); (conv => rhs; cbv); simp only [show (oi fun _ => IntKind.wrap .i64 (x i + 1)) = x (i + 1) from by rw [hi, hx, hx, wrap_i64 (by omega)]; push_cast; omega]
        · omega
        · intro q2 hq2
          obtain rfl := Option.some.inj (hq.symm.trans (by rw [hxi]; exact hq2))
          exact lddAt_false fun k s hs => hok2 k (by have h9 := (List.getElem?_eq_some_iff.1 hs).1; simp only at h9; omega) s hs
        · simp [FgtOk, undT, undEs, undEs.undRows, undL, AV.und]
        · trivial
      · trivial
  · rename_i h
    simp only [h]
    simp only [bIf_rec, pIf_rec, bNot_rec, hb, hi, hp, Int.ofNat_eq_natCast] at h
    simp at h
    conv => arg 4; cbv
    refine roundG_out hω ?_ (fun h => by cases h) ?_
    · conv => arg 4; cbv
      refine meanE_fin hω (0, 0, false) (by (conv => lhs; cbv); all_goals rfl) ⟨rfl, rfl⟩ ?_ (fun e he => by cases he) ?_ ?_
      · rw [codeR_none (codeAt_none fun j q hq => hok j (by have := (List.getElem?_eq_some_iff.1 hq).1; omega) q hq)]
      · trivial
      · simp
    · trivial

end Go.Den.Z
namespace Go.Den.Z
open Go.Proofs
def wkE (rl rm rc ro : List (List CV)) (lz : Bool) (k : Int) (w : Wk) : Ent := .mem 17 [[.c (.sl rl), .c (.sl rm), .c (.sl rc), .c (.sl ro), bV lz, iV k] ++ w.regs.map wV ++ [iV (if w.all then 255 else 192), wV w.pc, iV w.look]]
def upR : Option (Int × Wk) → AV
  | none => .tu [wV 0, bV false]
  | some x => .tu [wV x.1, bV true]
def upW (w : Wk) : Option (Int × Wk) → Wk
  | none => w
  | some x => x.2

theorem rowAt_ok {l : List UnwR} {a : Int} (h : ∀ (k : Nat) q, l[k]? = some q → q.Ok) {r : UnwR} (hr : rowAt l a = some r) : r.Ok := by
  induction l with
  | nil => cases hr
  | cons x rs ih =>
    simp only [rowAt] at hr
    cases hx : rowAt rs a with
    | some y =>
      rw [hx] at hr
      cases hr
      exact ih (fun k q hq => h (k + 1) q (by simpa using hq)) hx
    | none =>
      rw [hx] at hr
      simp only at hr
      split at hr
      · cases hr; exact h 0 _ rfl
      · cases hr

end Go.Den.Z
