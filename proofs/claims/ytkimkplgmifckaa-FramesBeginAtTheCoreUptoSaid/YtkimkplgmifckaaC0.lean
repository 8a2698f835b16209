/-
  Part of the proof that FramesBeginAtTheCore returns true: the contract of scope.Needs.
  No condition.
-/
import Derived.Test.YtkimkplgmifckaaB1
set_option linter.unusedSimpArgs false
set_option linter.unusedVariables false
set_option maxRecDepth 20000
set_option maxHeartbeats 8000000
namespace Go.Den.Z
open Go.Proofs
def RowsOne (l : List (List CV)) : Prop := ∀ (i : Nat) row, l[i]? = some row → row.length = 1 ∧ row.all CV.one = true
theorem appRow {l : List (List CV)} (h : RowsOne l) (v : Int) : RowsOne (l ++ [[iC v]]) := by
  intro i row hr
  rw [List.getElem?_append] at hr
  split at hr
  · exact h i row hr
  · cases hk : i - l.length with
    | zero => rw [hk] at hr; simp at hr; subst hr; exact ⟨rfl, rfl⟩
    | succ k => rw [hk] at hr; simp at hr
def nCells (N i : Nat) (x : AV) : List (List AV) := (List.range N).map fun j => if j < i then [.any] else if j = i then [x] else [.c (.sc (.slice none 0 0))]
def nHd (rows : List (List CV)) (N i : Nat) : St := { t := slots 47 [(0, .c (.sl rows)), (5, .os 0 0 N), (14, .c (.sl rows)), (15, iV (Int.ofNat N)), (16, iV (Int.ofNat i))], B := [], L := [.mem 1 (nCells N i (.c (.sc (.slice none 0 0))))] }
def nIn (rows needs : List (List CV)) (E : Ent) (ln : Int) (x : Nat → Int) (N i : Nat) (y : Nat × List (List CV)) : St :=
  match y.1 with
  | 0 => { t := slots 47 [(0, .c (.sl rows)), (5, .os 0 0 N), (6, iV (Int.ofNat i)), (14, .c (.sl rows)), (15, iV (Int.ofNat N)), (16, iV (Int.ofNat i)), (22, .c (.sl needs)), (23, iV ln), (24, iV (x 0))], B := [], L := [.mem 1 (nCells N i (.c (.sc (.slice none 0 0)))), E] }
  | k + 1 => { t := slots 47 [(0, .c (.sl rows)), (5, .os 0 0 N), (6, iV (Int.ofNat i)), (14, .c (.sl rows)), (15, iV (Int.ofNat N)), (16, iV (Int.ofNat i)), (22, .c (.sl needs)), (23, iV ln), (24, iV (x (k + 1)))], B := [], L := [.mem 1 (nCells N i (.gs 2 (k + 1))), E, .grow 1 3 y.2] }

theorem needs_ok (l : List Img) (rows : List (List CV)) (hrows : rows = l.map Img.e) (hl : LW Img.Wf l) (h1 : 1 ≤ l.length) (h5 : l.length ≤ 5) : ∃ v : AV × Int × Bool, (v.1 = .any ∨ v.1 = .c (.sl [])) ∧ PCalls P 39 [.c (.sl rows)] [] (.tu [v.1, iV v.2.1, bV v.2.2]) := by
  obtain ⟨N, hN⟩ : ∃ N, N = l.length := ⟨_, rfl⟩
  have hll : rows.length = N := by rw [hrows]; simp [hN]
  have hc : N = 1 ∨ N = 2 ∨ N = 3 ∨ N = 4 ∨ N = 5 := by omega
  obtain ⟨N1, hN1⟩ : ∃ M, M = N := ⟨_, rfl⟩
  obtain ⟨N2, hN2⟩ : ∃ M, M = N := ⟨_, rfl⟩
  obtain ⟨x, hx⟩ := counter 0
  obtain ⟨oi, ob, op, os, on, or_, om, hω⟩ := shields
  have hi : ∀ f, oi f = f () := hω.i
  have hb : ∀ f, ob f = f () := hω.b
  have hp : ∀ f, op f = f () := hω.p
  have hs : ∀ f, os f = f () := hω.s
  have hr : ∀ f, or_ f = f () := hω.r
  have hn : ∀ f, on f = f () := hω.n
  have hm : ∀ f, om f = f () := hω.m
  obtain ⟨app, happ⟩ : ∃ app : List (List CV) → Int → List (List CV), ∀ l v, app l v = l ++ [[.sc (.int .i64 v)]] := ⟨_, fun _ _ => rfl⟩
  rcases hc with rfl | rfl | rfl | rfl | rfl
  all_goals
    refine PCalls.runE hmix hω q_scope_Needs ?_
    unfold c_scope_Needs
    conv => arg 4; cbv
    refine meanE_loopG hω [0, 5, 14, 15, 16] 1 (nHd rows N1) (fun i => i ≤ N1) (fun i => N1 - i) 0 ?_ (Nat.zero_le _) (fun e he => by cases he) ?_ ?_ ?_
    all_goals subst hN1
  all_goals first
    | ((conv => lhs; cbv); (conv => rhs; cbv)
       rw [hn, hm, hi]
       simp only [hll]
       rfl)
    | (simp [FgtOk, undT, undEs, undEs.undRows, undL, AV.und, hm, hi, hll, List.replicate]; done)
    | (simp only [hp, hi, hll]
       simp [Value.oneCell']; done)
    | skip
  all_goals
    intro i hiN
    have hcs : i = 0 ∨ i = 1 ∨ i = 2 ∨ i = 3 ∨ i = 4 ∨ i = 5 := by omega
    obtain ⟨i1, hi1⟩ : ∃ M, M = i := ⟨_, rfl⟩
    obtain ⟨i2, hi2⟩ : ∃ M, M = i := ⟨_, rfl⟩
    obtain ⟨i3, hi3⟩ : ∃ M, M = i := ⟨_, rfl⟩
    rcases hcs with rfl | rfl | rfl | rfl | rfl | rfl
  all_goals first
    | (exfalso; omega)
    | skip
  all_goals simp only [nHd]
  all_goals conv => arg 4; cbv
  all_goals split
  all_goals rename_i h
  all_goals first
    | (exfalso; rw [hb] at h; revert h; decide)
    | skip
  all_goals simp only [h]
  all_goals conv => arg 4; cbv
  all_goals first
    | (refine roundG_out hω ?_ (fun h => by cases h) ?_
       · conv => arg 4; cbv
         refine meanE_fin hω (.any, 0, true) (by (conv => lhs; cbv); all_goals rfl) ⟨rfl, rfl⟩ (.inl rfl) (fun e he => by cases he) ?_ ?_
         · trivial
         · simp
       · trivial)
    | skip
  all_goals
    refine elemM hω hrows ?_ ?_ (fun _ => rfl) ?_ fun q hq => ?_
    · simp only [Int.ofNat_eq_natCast]; omega
    · simp only [Int.ofNat_eq_natCast]; omega
    · simp
    have hqw := hl.2 _ _ hq
    have hnl := hqw.needs.1
    rw [← Img.r_e]
    have hne : q.r.needs = q.needs.map eS := rfl
    generalize q.r = y at hne ⊢
    obtain ⟨name, shared, segs, entry, exps, imps, fixs, thr, thrSize, inits, finis, needs, id, lines, unw, files, types, vars, places⟩ := y
    simp only at hne
    have hnll : needs.length = q.needs.length := by rw [hne]; simp
    conv => arg 4; cbv
    refine meanE_loopG hω [0, 5, 6, 14, 15, 16, 22, 23, 24] 3 (nIn rows needs (.mem 19 [(RImg.e ⟨name, shared, segs, entry, exps, imps, fixs, thr, thrSize, inits, finis, needs, id, lines, unw, files, types, vars, places⟩).map .c]) (oi fun _ => Int.ofNat needs.length) x N2 i1) (fun y => y.1 ≤ q.needs.length ∧ y.2.length = y.1 ∧ RowsOne y.2) (fun y => q.needs.length - y.1) (0, []) ?_ ⟨Nat.zero_le _, rfl, fun i row h => by simp at h⟩ (fun e he => by cases he) ?_ ?_ ?_
    all_goals subst hN2
    all_goals subst hi1
    · (conv => lhs; cbv); (conv => rhs; cbv); simp only [hx 0]; rfl
    · simp [FgtOk, undT, undEs, undEs.undRows, undL, AV.und]
    · simp
    intro y hy
    obtain ⟨j, y2⟩ := y
    obtain ⟨hy1, hy2, hy3⟩ := hy
    simp only at hy1 hy2 hy3
    have hxj : x j = j := by rw [hx]; omega
    cases j with
    | zero =>
      obtain rfl : y2 = [] := List.length_eq_zero_iff.1 hy2
      simp only [nIn]
      conv => arg 4; cbv
      split
      · rename_i h
        simp only [h]
        simp only [hb, hi] at h
        simp at h
        conv => arg 4; cbv
        refine elemM hω hne ?_ ?_ (fun _ => rfl) ?_ fun s hsq => ?_
        · omega
        · omega
        · simp
        conv => arg 4; cbv
        refine callE hω (named_ok l rows hrows hl.1 s) (by (try (conv => cbv)); simp [undL, AV.und, agg]) (fun v => by simp [AV.und, undL, iV, bV, fltV, agg]) ?_ fun v hv => ?_
        · simp
        conv => arg 4; cbv
        split
        · rename_i h2
          simp only [h2]
          conv => arg 4; cbv
          refine roundG_out hω ?_ (fun h => by cases h) ?_
          · conv => arg 4; cbv
            refine roundG_out hω ?_ (fun h => by cases h) ?_
            · conv => arg 4; cbv
              refine meanE_fin hω (.c (.sl []), _, false) (by (conv => lhs; cbv); all_goals rfl) ⟨rfl, rfl⟩ (.inr rfl) (fun e he => by cases he) ?_ ?_
              · trivial
              · simp
            · trivial
          · trivial
        · rename_i h2
          simp only [h2]
          conv => arg 4; cbv
          refine roundG_next (1, [[iC v]]) ?_ ?_ ?_ (fun e he => by cases he) ?_ ?_
          · (conv => lhs; cbv); (conv => rhs; cbv)
            rw [hn, show (oi fun _ => IntKind.wrap .i64 (x 0 + 1)) = x 1 from by rw [hi, hx, hx, wrap_i64 (by omega)]; omega]
            try rfl
          · exact ⟨by simp only; omega, by simp [hy2], appRow (l := []) hy3 v⟩
          · simp only; omega
          · simp [FgtOk, undT, undEs, undEs.undRows, undL, AV.und, RImg.e]
          · simp only [hp]
            repeat' apply And.intro
            all_goals first
              | trivial
              | exact Int.NonNeg.mk _
              | omega
              | (simp only [List.length_singleton]; omega)
              | (intro i row hrow
                 cases i with
                 | zero => simp at hrow; subst hrow; exact ⟨rfl, rfl⟩
                 | succ i => simp at hrow)
      · rename_i h
        simp only [h]
        conv => arg 4; cbv
        refine roundG_out hω ?_ (fun h => by cases h) ?_
        · conv => arg 4; cbv
          refine roundG_nextW [(0, i2)] (i3 + 1) ?_ ?_ ?_ (fun e he => by cases he) ?_ ?_
          all_goals subst hi2
          all_goals subst hi3
          · (conv => lhs; cbv); (conv => rhs; cbv)
            simp only [hi]
            rfl
          · omega
          · omega
          · simp [FgtOk, undT, undEs, undEs.undRows, undL, AV.und, blank, blankL, blankRow]
          · trivial
        · trivial
    | succ k =>
      simp only [nIn]
      conv => arg 4; cbv
      split
      · rename_i h
        simp only [h]
        simp only [hb, hi] at h
        simp at h
        conv => arg 4; cbv
        refine elemM hω hne ?_ ?_ (fun _ => rfl) ?_ fun s hsq => ?_
        · omega
        · omega
        · simp
        conv => arg 4; cbv
        refine callE hω (named_ok l rows hrows hl.1 s) (by (try (conv => cbv)); simp [undL, AV.und, agg]) (fun v => by simp [AV.und, undL, iV, bV, fltV, agg]) ?_ fun v hv => ?_
        · simp
        conv => arg 4; cbv
        split
        · rename_i h2
          simp only [h2]
          conv => arg 4; cbv
          refine roundG_out hω ?_ (fun h => by cases h) ?_
          · conv => arg 4; cbv
            refine roundG_out hω ?_ (fun h => by cases h) ?_
            · conv => arg 4; cbv
              refine meanE_fin hω (.c (.sl []), _, false) (by (conv => lhs; cbv); all_goals rfl) ⟨rfl, rfl⟩ (.inr rfl) (fun e he => by cases he) ?_ ?_
              · trivial
              · simp
            · trivial
          · trivial
        · rename_i h2
          simp only [h2]
          conv => arg 4; cbv
          refine roundG_next (k + 2, app y2 v) ?_ ?_ ?_ (fun e he => by cases he) ?_ ?_
          · (conv => lhs; cbv); (conv => rhs; cbv)
            rw [hn, hr, ← happ, show (oi fun _ => IntKind.wrap .i64 (x (k + 1) + 1)) = x (k + 1 + 1) from by rw [hi, hx, hx, wrap_i64 (by omega)]; omega]
            try rfl
          · exact ⟨by simp only; omega, by simp [hy2, happ], by simp only [happ]; exact appRow hy3 v⟩
          · simp only; omega
          · simp [FgtOk, undT, undEs, undEs.undRows, undL, AV.und, RImg.e]
          · simp only [hp]
            repeat' apply And.intro
            all_goals first
              | trivial
              | exact Int.NonNeg.mk _
              | omega
              | (simp only [List.length_singleton]; omega)
              | (intro i row hrow
                 cases i with
                 | zero => simp at hrow; subst hrow; exact ⟨rfl, rfl⟩
                 | succ i => simp at hrow)
      · rename_i h
        simp only [h]
        conv => arg 4; cbv
        refine roundG_out hω ?_ (fun h => by cases h) ?_
        · conv => arg 4; cbv
          refine roundG_nextW [(0, i2)] (i3 + 1) ?_ ?_ ?_ (fun e he => by cases he) ?_ ?_
          all_goals subst hi2
          all_goals subst hi3
          · (conv => lhs; cbv); (conv => rhs; cbv)
            simp only [hi]
            rfl
          · omega
          · omega
          · simp [FgtOk, undT, undEs, undEs.undRows, undL, AV.und, blank, blankL, blankRow]
          · trivial
        · trivial

end Go.Den.Z
