/-
  Part of the proof that FramesMatchSpec returns true: the walk of the reference, last part, second memory.
  No condition.
-/
import Derived.Test.YtkimkplgmifckaaGreatE1
set_option linter.unusedSimpArgs false
set_option linter.unusedVariables false
set_option maxRecDepth 20000
set_option maxHeartbeats 8000000
namespace Go.Den.Z
open Go.Proofs
theorem rwC1 (p : Prc) (hpw : p.Wf) (rl rm rc ro : List (List CV)) (lz : Bool) (k : Int) (buf : List Pnd) (RES : List (List CV)) (E1 : Ent) (hE1 : ∀ n r, undEs n r → undEs n (E1 :: r)) (hseen : ∀ a, u32r a → ∃ v : Int × Bool, v = optR (wordOf p.mem buf a) ∧ PCalls P 36 [agg [.sl rl, .sl rm, .sl rc, .sl ro, bC lz], iV k, wV a] [] (.tu [wV v.1, bV v.2])) (app : List (List CV) → Int → Int → List (List CV)) (happ : ∀ l a b, app l a b = l ++ [[.sc (.int .u32 a), .sc (.int .u32 b)]]) (r0 r1 r2 r3 r4 r5 r6 r7 : Int) (wa : Bool) (wp wlk : Int) (U : Option (Int × Wk)) (n : Nat) (rows : List (List CV)) (hrl2 : rows.length = n + 1) (hn40 : (n + 1) < 40) (hS : U = none → app rows wp 0 = RES) (hN : ∀ x, U = some x → rwInv p buf RES ((n + 1) + 1, app rows wp x.1, x.2)) (oi : (Unit → Int) → Int) (ob : (Unit → Bool) → Bool) (op : (Unit → Prop) → Prop) (os : (Unit → ByteArray) → ByteArray) (on : (Unit → Nat) → Nat) (or_ : (Unit → List (List CV)) → List (List CV)) (om : (Unit → List (List AV)) → List (List AV)) (hω : Om.Real ⟨oi, ob, op, os, on, or_, om⟩) (base qa qs zo zr : Int) (hqs : -1048576 ≤ qs ∧ qs ≤ 0) (hbu : u32r base) (hU2 : U = (wordOf p.mem buf (u32 (base - 4))).bind fun pc => (if qs < 0 then wordOf p.mem buf (u32 (base + u32 qs)) else some r6).map fun fp => (base, ⟨[r0, r1, r2, r3, r4, r5, fp, base], false, pc, pc - 1⟩)) (j0 j3 j4 j5 j8 j9 j12 j15 j16 j17 j18 j19 j20 j21 j22 j23 j24 j25 j26 j27 j28 j29 j30 j31 j32 j33 j34 j35 j36 j37 j38 j39 j40 j41 j42 j43 j44 j45 j46 j47 j48 j49 j50 j51 j52 j53 j54 j55 j56 j57 j58 j59 j60 j61 j62 j63 j64 j65 j66 j67 j68 j69 j70 j71 j72 j73 j74 j75 j76 j77 j78 j79 j80 j81 j82 j83 j84 j85 j86 j87 j88 j89 j90 j91 j92 j93 j94 j95 j96 j97 j98 j99 j100 j101 j102 j103 j104 j105 j106 j107 j108 j109 j110 j111 j112 j113 j114 j115 j116 j117 j118 j119 j120 j121 j122 j123 j124 j125 j126 j127 j128 j129 j130 j131 j132 j133 j134 j135 j136 j137 j138 j139 j140 j141 j142 j143 j144 j145 j146 j147 j148 j149 j150 j151 : AV) (pr : Prop) (hpr : pr) :
    MeanE P (RoundFG (fun v => v = RES) (rwInv p buf RES) rwMu ((n + 1), rows, ⟨[r0, r1, r2, r3, r4, r5, r6, r7], wa, wp, wlk⟩)) (RoundQG P (fun v => EndsR [RV.tmp 4] fun r' H' => r' = AV.c (.sl v) ∧ H' = []) rwK [1, 2, 6, 7, 8, 9, 10] 8 (rwHd rl rm rc ro lz E1 k)) (runc ⟨oi, ob, op, os, on, or_, om⟩ 80000 (.code c_rwC) (.blk 1 .nil) { t := [j0, iV k, .op 0 0 0, j3, j4, j5, .op 2 0 0, .os 3 0 8, j8, j9, .gs 7 (n + 1), .op 8 0 0, j12, .op 9 0 0, wV base, j15, j16, j17, j18, j19, j20, j21, j22, j23, j24, j25, j26, j27, j28, j29, j30, j31, j32, j33, j34, j35, j36, j37, j38, j39, j40, j41, j42, j43, j44, j45, j46, j47, j48, j49, j50, j51, j52, j53, j54, j55, j56, j57, j58, j59, j60, j61, j62, j63, j64, j65, j66, j67, j68, j69, j70, j71, j72, j73, j74, j75, j76, j77, j78, j79, j80, j81, j82, j83, j84, j85, j86, j87, j88, j89, j90, j91, j92, j93, j94, j95, j96, j97, j98, j99, j100, j101, j102, j103, j104, j105, j106, j107, j108, j109, j110, j111, j112, j113, j114, j115, j116, j117, j118, j119, j120, j121, j122, j123, j124, j125, j126, j127, j128, j129, j130, j131, j132, j133, j134, j135, j136, j137, j138, j139, j140, j141, j142, j143, j144, j145, j146, j147, j148, j149, j150, j151], B := [], L := [.mem 5 [[.c (.sl rl), .c (.sl rm), .c (.sl rc), .c (.sl ro), bV lz]], E1, .mem 8 [[wV r0, wV r1, wV r2, wV r3, wV r4, wV r5, wV r6, wV r7]], .mem 1 [[bV wa], [bV wa], [bV wa], [bV wa], [bV wa], [bV wa], [bV true], [bV true]], .mem 2 [[.any, .any]], .mem 4 [[.any, .any, .any, .any]], .mem 2 [[.any, .any]], .grow 2 76 rows, .mem 2 [[wV wp, wV 0]], .mem 4 [[iV zo, iV zr, iV qa, iV qs]]] } pr) := by
  have hi : ∀ f, oi f = f () := hω.i
  have hb : ∀ f, ob f = f () := hω.b
  have hp : ∀ f, op f = f () := hω.p
  have hs : ∀ f, os f = f () := hω.s
  have hr : ∀ f, or_ f = f () := hω.r
  have hn : ∀ f, on f = f () := hω.n
  have hwdu := fun a n => wordOf_u32 (m := p.mem) (fun i q h => (hpw.mem.2 i q h).data) (buf := buf) (a := a) (n := n)
  obtain ⟨bm, hbm⟩ : ∃ b : Int, b = u32 (base - 4) := ⟨_, rfl⟩
  have e2 : (oi fun _ => IntKind.u32.wrap (base - 4)) = bm := by rw [hi, hbm]; rfl
  obtain ⟨bs, hbs⟩ : ∃ b : Int, b = u32 (base + u32 qs) := ⟨_, rfl⟩
  have e3 : (oi fun _ => IntKind.u32.wrap (base + (oi fun _ => IntKind.u32.wrap qs))) = bs := by rw [hi, hi, hbs]; rfl
  rw [← hbm, ← hbs] at hU2
  unfold c_rwC
  conv => arg 4; cbv
  simp only [e2]
  refine callE hω (hseen bm (by rw [hbm]; exact u32_range _)) (by (try (conv => cbv)); simp [undL, AV.und, agg]) (fun v => by simp [AV.und, undL, iV, bV, wV, fltV, agg]) ?_ fun v hv => ?_
  · first | (simp [bIf_rec, pIf_rec, bNot_rec, hb, hi, hp, Int.ofNat_eq_natCast, oConds, strip, St.ev, hpr]; done) | (simp only [bIf_rec, pIf_rec, bNot_rec, hb, hi, hp, Int.ofNat_eq_natCast]; done) | (simp [bIf_rec, pIf_rec, bNot_rec, hb, hi, hp, Int.ofNat_eq_natCast, oConds, strip, St.ev, hpr]; (repeat' apply And.intro) <;> first | exact Int.NonNeg.mk _ | omega)
  obtain ⟨v1, v4⟩ := v
  cases hw1 : wordOf p.mem buf bm with
  | none =>
    rw [hw1] at hv hU2
    simp only [optR, Prod.mk.injEq] at hv
    obtain ⟨rfl, rfl⟩ := hv
    conv => arg 4; cbv
    refine roundG_out hω ?_ (fun h => by cases h) ?_
    · conv => arg 4; cbv
      refine meanE_fin hω _ (by (conv => lhs; cbv); all_goals rfl) ⟨rfl, rfl⟩ ?_ (fun e he => by cases he) ?_ ?_
      · rw [← hS hU2, happ]
        rw [hr, hn, hr, List.take_of_length_le (by simp; omega)]
      · first | trivial | (simp [bIf_rec, pIf_rec, bNot_rec, hb, hi, hp, Int.ofNat_eq_natCast]; done)
      · simp
    · simp only [hp]
      repeat' apply And.intro
      all_goals first
        | trivial
        | exact hpr
        | omega
        | exact Int.NonNeg.mk _
        | (simp only [List.length_singleton]; omega)
        | (intro i row hrow
           cases i with
           | zero => simp at hrow; subst hrow; exact ⟨rfl, rfl⟩
           | succ i => simp at hrow)
        | (simp only [bIf_rec, pIf_rec, bNot_rec, hb, hi, hp, Int.ofNat_eq_natCast]; simp; done)
        | (simp [bIf_rec, pIf_rec, bNot_rec, hb, hi, hp, Int.ofNat_eq_natCast]; (repeat' apply And.intro) <;> exact Int.NonNeg.mk _)
  | some pc =>
    have hpcu := hwdu _ _ hw1
    rw [hw1] at hv hU2
    simp only [optR, Prod.mk.injEq] at hv
    obtain ⟨rfl, rfl⟩ := hv
    simp only [Option.bind_some] at hU2
    unfold u32r at hpcu
    obtain ⟨lk, hlk⟩ : ∃ lk : Int, lk = v1 - 1 := ⟨_, rfl⟩
    have elk : (oi fun _ => IntKind.i64.wrap ((oi fun _ => IntKind.i64.wrap v1) - 1)) = lk := by rw [hi, hi, wrap_i64 (n := v1) (by omega), wrap_i64 (by omega), hlk]
    rw [← hlk] at hU2
    clear hlk
    conv => arg 4; cbv
    split
    · rename_i h4
      simp only [h4]
      simp only [bIf_rec, pIf_rec, bNot_rec, hb, hi, hp, Int.ofNat_eq_natCast] at h4
      rw [if_pos (by simp at h4; omega)] at hU2
      conv => arg 4; cbv
      simp only [e3]
      refine callE hω (hseen bs (by rw [hbs]; exact u32_range _)) (by (try (conv => cbv)); simp [undL, AV.und, agg]) (fun v => by simp [AV.und, undL, iV, bV, wV, fltV, agg]) ?_ fun v hv => ?_
      · first | (simp [bIf_rec, pIf_rec, bNot_rec, hb, hi, hp, Int.ofNat_eq_natCast, oConds, strip, St.ev, hpr]; done) | (simp only [bIf_rec, pIf_rec, bNot_rec, hb, hi, hp, Int.ofNat_eq_natCast]; done) | (simp [bIf_rec, pIf_rec, bNot_rec, hb, hi, hp, Int.ofNat_eq_natCast, oConds, strip, St.ev, hpr]; (repeat' apply And.intro) <;> first | exact Int.NonNeg.mk _ | omega)
      obtain ⟨v5, v6⟩ := v
      cases hw2 : wordOf p.mem buf bs with
      | none =>
        rw [hw2] at hv hU2
        simp only [optR, Prod.mk.injEq] at hv
        obtain ⟨rfl, rfl⟩ := hv
        conv => arg 4; cbv
        refine roundG_out hω ?_ (fun h => by cases h) ?_
        · conv => arg 4; cbv
          refine meanE_fin hω _ (by (conv => lhs; cbv); all_goals rfl) ⟨rfl, rfl⟩ ?_ (fun e he => by cases he) ?_ ?_
          · rw [← hS hU2, happ]
            rw [hr, hn, hr, List.take_of_length_le (by simp; omega)]
          · first | trivial | (simp [bIf_rec, pIf_rec, bNot_rec, hb, hi, hp, Int.ofNat_eq_natCast]; done)
          · simp
        · simp only [hp]
          repeat' apply And.intro
          all_goals first
            | trivial
            | exact hpr
            | omega
            | exact Int.NonNeg.mk _
            | (simp only [List.length_singleton]; omega)
            | (intro i row hrow
               cases i with
               | zero => simp at hrow; subst hrow; exact ⟨rfl, rfl⟩
               | succ i => simp at hrow)
            | (simp only [bIf_rec, pIf_rec, bNot_rec, hb, hi, hp, Int.ofNat_eq_natCast]; simp; done)
            | (simp [bIf_rec, pIf_rec, bNot_rec, hb, hi, hp, Int.ofNat_eq_natCast]; (repeat' apply And.intro) <;> exact Int.NonNeg.mk _)
      | some fp =>
        rw [hw2] at hv hU2
        simp only [optR, Prod.mk.injEq] at hv
        obtain ⟨rfl, rfl⟩ := hv
        conv => arg 4; cbv
        refine meanE_loopG hω [1, 2, 6, 7, 10, 11, 14, 15, 19] 10 (fun i : Nat => match i with
          | 0 => { t := slots 152 [(1, iV k), (2, .op 0 0 0), (6, .op 2 0 0), (7, .os 3 0 8), (10, .gs 7 (n + 1)), (11, .op 8 0 0), (14, wV base), (15, wV v1), (19, iV 0)], B := [], L := [.mem 5 [[.c (.sl rl), .c (.sl rm), .c (.sl rc), .c (.sl ro), bV lz]], E1, .mem 8 [[wV r0, wV r1, wV r2, wV r3, wV r4, wV r5, wV v5, wV base]], .mem 1 [[bV wa], [bV wa], [bV wa], [bV wa], [bV wa], [bV wa], [bV true], [bV true]], .mem 2 [[.any, .any]], .mem 4 [[.any, .any, .any, .any]], .mem 2 [[.any, .any]], .grow 2 76 rows, .mem 2 [[wV wp, wV 0]], .mem 4 [[iV zo, iV zr, iV qa, iV qs]]] }
          | 1 => { t := slots 152 [(1, iV k), (2, .op 0 0 0), (6, .op 2 0 0), (7, .os 3 0 8), (10, .gs 7 (n + 1)), (11, .op 8 0 0), (14, wV base), (15, wV v1), (19, iV 1)], B := [], L := [.mem 5 [[.c (.sl rl), .c (.sl rm), .c (.sl rc), .c (.sl ro), bV lz]], E1, .mem 8 [[wV r0, wV r1, wV r2, wV r3, wV r4, wV r5, wV v5, wV base]], .mem 1 [[bV false], [bV wa], [bV wa], [bV wa], [bV wa], [bV wa], [bV true], [bV true]], .mem 2 [[.any, .any]], .mem 4 [[.any, .any, .any, .any]], .mem 2 [[.any, .any]], .grow 2 76 rows, .mem 2 [[wV wp, wV 0]], .mem 4 [[iV zo, iV zr, iV qa, iV qs]]] }
          | 2 => { t := slots 152 [(1, iV k), (2, .op 0 0 0), (6, .op 2 0 0), (7, .os 3 0 8), (10, .gs 7 (n + 1)), (11, .op 8 0 0), (14, wV base), (15, wV v1), (19, iV 2)], B := [], L := [.mem 5 [[.c (.sl rl), .c (.sl rm), .c (.sl rc), .c (.sl ro), bV lz]], E1, .mem 8 [[wV r0, wV r1, wV r2, wV r3, wV r4, wV r5, wV v5, wV base]], .mem 1 [[bV false], [bV false], [bV wa], [bV wa], [bV wa], [bV wa], [bV true], [bV true]], .mem 2 [[.any, .any]], .mem 4 [[.any, .any, .any, .any]], .mem 2 [[.any, .any]], .grow 2 76 rows, .mem 2 [[wV wp, wV 0]], .mem 4 [[iV zo, iV zr, iV qa, iV qs]]] }
          | 3 => { t := slots 152 [(1, iV k), (2, .op 0 0 0), (6, .op 2 0 0), (7, .os 3 0 8), (10, .gs 7 (n + 1)), (11, .op 8 0 0), (14, wV base), (15, wV v1), (19, iV 3)], B := [], L := [.mem 5 [[.c (.sl rl), .c (.sl rm), .c (.sl rc), .c (.sl ro), bV lz]], E1, .mem 8 [[wV r0, wV r1, wV r2, wV r3, wV r4, wV r5, wV v5, wV base]], .mem 1 [[bV false], [bV false], [bV false], [bV wa], [bV wa], [bV wa], [bV true], [bV true]], .mem 2 [[.any, .any]], .mem 4 [[.any, .any, .any, .any]], .mem 2 [[.any, .any]], .grow 2 76 rows, .mem 2 [[wV wp, wV 0]], .mem 4 [[iV zo, iV zr, iV qa, iV qs]]] }
          | 4 => { t := slots 152 [(1, iV k), (2, .op 0 0 0), (6, .op 2 0 0), (7, .os 3 0 8), (10, .gs 7 (n + 1)), (11, .op 8 0 0), (14, wV base), (15, wV v1), (19, iV 4)], B := [], L := [.mem 5 [[.c (.sl rl), .c (.sl rm), .c (.sl rc), .c (.sl ro), bV lz]], E1, .mem 8 [[wV r0, wV r1, wV r2, wV r3, wV r4, wV r5, wV v5, wV base]], .mem 1 [[bV false], [bV false], [bV false], [bV false], [bV wa], [bV wa], [bV true], [bV true]], .mem 2 [[.any, .any]], .mem 4 [[.any, .any, .any, .any]], .mem 2 [[.any, .any]], .grow 2 76 rows, .mem 2 [[wV wp, wV 0]], .mem 4 [[iV zo, iV zr, iV qa, iV qs]]] }
          | 5 => { t := slots 152 [(1, iV k), (2, .op 0 0 0), (6, .op 2 0 0), (7, .os 3 0 8), (10, .gs 7 (n + 1)), (11, .op 8 0 0), (14, wV base), (15, wV v1), (19, iV 5)], B := [], L := [.mem 5 [[.c (.sl rl), .c (.sl rm), .c (.sl rc), .c (.sl ro), bV lz]], E1, .mem 8 [[wV r0, wV r1, wV r2, wV r3, wV r4, wV r5, wV v5, wV base]], .mem 1 [[bV false], [bV false], [bV false], [bV false], [bV false], [bV wa], [bV true], [bV true]], .mem 2 [[.any, .any]], .mem 4 [[.any, .any, .any, .any]], .mem 2 [[.any, .any]], .grow 2 76 rows, .mem 2 [[wV wp, wV 0]], .mem 4 [[iV zo, iV zr, iV qa, iV qs]]] }
          | 6 => { t := slots 152 [(1, iV k), (2, .op 0 0 0), (6, .op 2 0 0), (7, .os 3 0 8), (10, .gs 7 (n + 1)), (11, .op 8 0 0), (14, wV base), (15, wV v1), (19, iV 6)], B := [], L := [.mem 5 [[.c (.sl rl), .c (.sl rm), .c (.sl rc), .c (.sl ro), bV lz]], E1, .mem 8 [[wV r0, wV r1, wV r2, wV r3, wV r4, wV r5, wV v5, wV base]], .mem 1 [[bV false], [bV false], [bV false], [bV false], [bV false], [bV false], [bV true], [bV true]], .mem 2 [[.any, .any]], .mem 4 [[.any, .any, .any, .any]], .mem 2 [[.any, .any]], .grow 2 76 rows, .mem 2 [[wV wp, wV 0]], .mem 4 [[iV zo, iV zr, iV qa, iV qs]]] }
          | 7 => { t := slots 152 [(1, iV k), (2, .op 0 0 0), (6, .op 2 0 0), (7, .os 3 0 8), (10, .gs 7 (n + 1)), (11, .op 8 0 0), (14, wV base), (15, wV v1), (19, iV 7)], B := [], L := [.mem 5 [[.c (.sl rl), .c (.sl rm), .c (.sl rc), .c (.sl ro), bV lz]], E1, .mem 8 [[wV r0, wV r1, wV r2, wV r3, wV r4, wV r5, wV v5, wV base]], .mem 1 [[bV false], [bV false], [bV false], [bV false], [bV false], [bV false], [bV true], [bV true]], .mem 2 [[.any, .any]], .mem 4 [[.any, .any, .any, .any]], .mem 2 [[.any, .any]], .grow 2 76 rows, .mem 2 [[wV wp, wV 0]], .mem 4 [[iV zo, iV zr, iV qa, iV qs]]] }
          | _ => { t := slots 152 [(1, iV k), (2, .op 0 0 0), (6, .op 2 0 0), (7, .os 3 0 8), (10, .gs 7 (n + 1)), (11, .op 8 0 0), (14, wV base), (15, wV v1), (19, iV 8)], B := [], L := [.mem 5 [[.c (.sl rl), .c (.sl rm), .c (.sl rc), .c (.sl ro), bV lz]], E1, .mem 8 [[wV r0, wV r1, wV r2, wV r3, wV r4, wV r5, wV v5, wV base]], .mem 1 [[bV false], [bV false], [bV false], [bV false], [bV false], [bV false], [bV true], [bV true]], .mem 2 [[.any, .any]], .mem 4 [[.any, .any, .any, .any]], .mem 2 [[.any, .any]], .grow 2 76 rows, .mem 2 [[wV wp, wV 0]], .mem 4 [[iV zo, iV zr, iV qa, iV qs]]] }) (fun i => i ≤ 8) (fun i => 8 - i) 0 ?_ (Nat.zero_le _) (fun e he => by cases he) ?_ ?_ ?_
        · (conv => lhs; cbv); (conv => rhs; cbv); try rfl
        · first
            | (simp [FgtOk, undT, undEs, undEs.undRows, undL, AV.und, iV, wV, bV, blank, blankL, blankRow]; done)
            | (simp [FgtOk, undT, undEs, undEs.undRows, undL, AV.und, iV, wV, bV, blank, blankL, blankRow]; exact hE1 _ _ (by simp [undEs, undEs.undRows, undL, AV.und, iV, wV, bV]))
        · first | (simp [bIf_rec, pIf_rec, bNot_rec, hb, hi, hp, Int.ofNat_eq_natCast, oConds, strip, St.ev, hpr]; done) | (simp only [bIf_rec, pIf_rec, bNot_rec, hb, hi, hp, Int.ofNat_eq_natCast]; done) | (simp [bIf_rec, pIf_rec, bNot_rec, hb, hi, hp, Int.ofNat_eq_natCast, oConds, strip, St.ev, hpr]; (repeat' apply And.intro) <;> first | exact Int.NonNeg.mk _ | omega)
        intro i hi8
        have hcs : i = 0 ∨ i = 1 ∨ i = 2 ∨ i = 3 ∨ i = 4 ∨ i = 5 ∨ i = 6 ∨ i = 7 ∨ i = 8 := by omega
        rcases hcs with rfl | rfl | rfl | rfl | rfl | rfl | rfl | rfl | rfl
        · simp only
          conv => arg 4; cbv
          split
          · rename_i h
            simp only [h]
            conv => arg 4; cbv
            have ekk : (Bool.rec (motive := fun _ => Bool) (ob fun _ => (0 : Int) == 7) true (ob fun _ => (0 : Int) == 6)) = false := by rw [hb, hb]; rfl
            refine roundG_next 1 ?_ ?_ ?_ (fun e he => by cases he) ?_ ?_
            · (conv => lhs; cbv); (conv => rhs; cbv)
              rw [show (oi fun _ => IntKind.wrap .i64 (0 + 1)) = 1 from by rw [hi]; rfl, ekk]
              try rfl
            · omega
            · omega
            · first
                | (simp [FgtOk, undT, undEs, undEs.undRows, undL, AV.und, iV, wV, bV, blank, blankL, blankRow]; done)
                | (simp [FgtOk, undT, undEs, undEs.undRows, undL, AV.und, iV, wV, bV, blank, blankL, blankRow]; exact hE1 _ _ (by simp [undEs, undEs.undRows, undL, AV.und, iV, wV, bV]))
            · first | (simp [bIf_rec, pIf_rec, bNot_rec, hb, hi, hp, Int.ofNat_eq_natCast, oConds, strip, St.ev, hpr]; done) | (simp only [bIf_rec, pIf_rec, bNot_rec, hb, hi, hp, Int.ofNat_eq_natCast]; done) | (simp [bIf_rec, pIf_rec, bNot_rec, hb, hi, hp, Int.ofNat_eq_natCast, oConds, strip, St.ev, hpr]; (repeat' apply And.intro) <;> first | exact Int.NonNeg.mk _ | omega)
          · rename_i h
            rw [hb] at h
            simp at h
        · simp only
          conv => arg 4; cbv
          split
          · rename_i h
            simp only [h]
            conv => arg 4; cbv
            have ekk : (Bool.rec (motive := fun _ => Bool) (ob fun _ => (1 : Int) == 7) true (ob fun _ => (1 : Int) == 6)) = false := by rw [hb, hb]; rfl
            refine roundG_next 2 ?_ ?_ ?_ (fun e he => by cases he) ?_ ?_
            · (conv => lhs; cbv); (conv => rhs; cbv)
              rw [show (oi fun _ => IntKind.wrap .i64 (1 + 1)) = 2 from by rw [hi]; rfl, ekk]
              try rfl
            · omega
            · omega
            · first
                | (simp [FgtOk, undT, undEs, undEs.undRows, undL, AV.und, iV, wV, bV, blank, blankL, blankRow]; done)
                | (simp [FgtOk, undT, undEs, undEs.undRows, undL, AV.und, iV, wV, bV, blank, blankL, blankRow]; exact hE1 _ _ (by simp [undEs, undEs.undRows, undL, AV.und, iV, wV, bV]))
            · first | (simp [bIf_rec, pIf_rec, bNot_rec, hb, hi, hp, Int.ofNat_eq_natCast, oConds, strip, St.ev, hpr]; done) | (simp only [bIf_rec, pIf_rec, bNot_rec, hb, hi, hp, Int.ofNat_eq_natCast]; done) | (simp [bIf_rec, pIf_rec, bNot_rec, hb, hi, hp, Int.ofNat_eq_natCast, oConds, strip, St.ev, hpr]; (repeat' apply And.intro) <;> first | exact Int.NonNeg.mk _ | omega)
          · rename_i h
            rw [hb] at h
            simp at h
        · simp only
          conv => arg 4; cbv
          split
          · rename_i h
            simp only [h]
            conv => arg 4; cbv
            have ekk : (Bool.rec (motive := fun _ => Bool) (ob fun _ => (2 : Int) == 7) true (ob fun _ => (2 : Int) == 6)) = false := by rw [hb, hb]; rfl
            refine roundG_next 3 ?_ ?_ ?_ (fun e he => by cases he) ?_ ?_
            · (conv => lhs; cbv); (conv => rhs; cbv)
              rw [show (oi fun _ => IntKind.wrap .i64 (2 + 1)) = 3 from by rw [hi]; rfl, ekk]
              try rfl
            · omega
            · omega
            · first
                | (simp [FgtOk, undT, undEs, undEs.undRows, undL, AV.und, iV, wV, bV, blank, blankL, blankRow]; done)
                | (simp [FgtOk, undT, undEs, undEs.undRows, undL, AV.und, iV, wV, bV, blank, blankL, blankRow]; exact hE1 _ _ (by simp [undEs, undEs.undRows, undL, AV.und, iV, wV, bV]))
            · first | (simp [bIf_rec, pIf_rec, bNot_rec, hb, hi, hp, Int.ofNat_eq_natCast, oConds, strip, St.ev, hpr]; done) | (simp only [bIf_rec, pIf_rec, bNot_rec, hb, hi, hp, Int.ofNat_eq_natCast]; done) | (simp [bIf_rec, pIf_rec, bNot_rec, hb, hi, hp, Int.ofNat_eq_natCast, oConds, strip, St.ev, hpr]; (repeat' apply And.intro) <;> first | exact Int.NonNeg.mk _ | omega)
          · rename_i h
            rw [hb] at h
            simp at h
        · simp only
          conv => arg 4; cbv
          split
          · rename_i h
            simp only [h]
            conv => arg 4; cbv
            have ekk : (Bool.rec (motive := fun _ => Bool) (ob fun _ => (3 : Int) == 7) true (ob fun _ => (3 : Int) == 6)) = false := by rw [hb, hb]; rfl
            refine roundG_next 4 ?_ ?_ ?_ (fun e he => by cases he) ?_ ?_
            · (conv => lhs; cbv); (conv => rhs; cbv)
              rw [show (oi fun _ => IntKind.wrap .i64 (3 + 1)) = 4 from by rw [hi]; rfl, ekk]
              try rfl
            · omega
            · omega
            · first
                | (simp [FgtOk, undT, undEs, undEs.undRows, undL, AV.und, iV, wV, bV, blank, blankL, blankRow]; done)
                | (simp [FgtOk, undT, undEs, undEs.undRows, undL, AV.und, iV, wV, bV, blank, blankL, blankRow]; exact hE1 _ _ (by simp [undEs, undEs.undRows, undL, AV.und, iV, wV, bV]))
            · first | (simp [bIf_rec, pIf_rec, bNot_rec, hb, hi, hp, Int.ofNat_eq_natCast, oConds, strip, St.ev, hpr]; done) | (simp only [bIf_rec, pIf_rec, bNot_rec, hb, hi, hp, Int.ofNat_eq_natCast]; done) | (simp [bIf_rec, pIf_rec, bNot_rec, hb, hi, hp, Int.ofNat_eq_natCast, oConds, strip, St.ev, hpr]; (repeat' apply And.intro) <;> first | exact Int.NonNeg.mk _ | omega)
          · rename_i h
            rw [hb] at h
            simp at h
        · simp only
          conv => arg 4; cbv
          split
          · rename_i h
            simp only [h]
            conv => arg 4; cbv
            have ekk : (Bool.rec (motive := fun _ => Bool) (ob fun _ => (4 : Int) == 7) true (ob fun _ => (4 : Int) == 6)) = false := by rw [hb, hb]; rfl
            refine roundG_next 5 ?_ ?_ ?_ (fun e he => by cases he) ?_ ?_
            · (conv => lhs; cbv); (conv => rhs; cbv)
              rw [show (oi fun _ => IntKind.wrap .i64 (4 + 1)) = 5 from by rw [hi]; rfl, ekk]
              try rfl
            · omega
            · omega
            · first
                | (simp [FgtOk, undT, undEs, undEs.undRows, undL, AV.und, iV, wV, bV, blank, blankL, blankRow]; done)
                | (simp [FgtOk, undT, undEs, undEs.undRows, undL, AV.und, iV, wV, bV, blank, blankL, blankRow]; exact hE1 _ _ (by simp [undEs, undEs.undRows, undL, AV.und, iV, wV, bV]))
            · first | (simp [bIf_rec, pIf_rec, bNot_rec, hb, hi, hp, Int.ofNat_eq_natCast, oConds, strip, St.ev, hpr]; done) | (simp only [bIf_rec, pIf_rec, bNot_rec, hb, hi, hp, Int.ofNat_eq_natCast]; done) | (simp [bIf_rec, pIf_rec, bNot_rec, hb, hi, hp, Int.ofNat_eq_natCast, oConds, strip, St.ev, hpr]; (repeat' apply And.intro) <;> first | exact Int.NonNeg.mk _ | omega)
          · rename_i h
            rw [hb] at h
            simp at h
        · simp only
          conv => arg 4; cbv
          split
          · rename_i h
            simp only [h]
            conv => arg 4; cbv
            have ekk : (Bool.rec (motive := fun _ => Bool) (ob fun _ => (5 : Int) == 7) true (ob fun _ => (5 : Int) == 6)) = false := by rw [hb, hb]; rfl
            refine roundG_next 6 ?_ ?_ ?_ (fun e he => by cases he) ?_ ?_
            · (conv => lhs; cbv); (conv => rhs; cbv)
              rw [show (oi fun _ => IntKind.wrap .i64 (5 + 1)) = 6 from by rw [hi]; rfl, ekk]
              try rfl
            · omega
            · omega
            · first
                | (simp [FgtOk, undT, undEs, undEs.undRows, undL, AV.und, iV, wV, bV, blank, blankL, blankRow]; done)
                | (simp [FgtOk, undT, undEs, undEs.undRows, undL, AV.und, iV, wV, bV, blank, blankL, blankRow]; exact hE1 _ _ (by simp [undEs, undEs.undRows, undL, AV.und, iV, wV, bV]))
            · first | (simp [bIf_rec, pIf_rec, bNot_rec, hb, hi, hp, Int.ofNat_eq_natCast, oConds, strip, St.ev, hpr]; done) | (simp only [bIf_rec, pIf_rec, bNot_rec, hb, hi, hp, Int.ofNat_eq_natCast]; done) | (simp [bIf_rec, pIf_rec, bNot_rec, hb, hi, hp, Int.ofNat_eq_natCast, oConds, strip, St.ev, hpr]; (repeat' apply And.intro) <;> first | exact Int.NonNeg.mk _ | omega)
          · rename_i h
            rw [hb] at h
            simp at h
        · simp only
          conv => arg 4; cbv
          split
          · rename_i h
            simp only [h]
            conv => arg 4; cbv
            have ekk : (Bool.rec (motive := fun _ => Bool) (ob fun _ => (6 : Int) == 7) true (ob fun _ => (6 : Int) == 6)) = true := by rw [hb, hb]; rfl
            refine roundG_next 7 ?_ ?_ ?_ (fun e he => by cases he) ?_ ?_
            · (conv => lhs; cbv); (conv => rhs; cbv)
              rw [show (oi fun _ => IntKind.wrap .i64 (6 + 1)) = 7 from by rw [hi]; rfl, ekk]
              try rfl
            · omega
            · omega
            · first
                | (simp [FgtOk, undT, undEs, undEs.undRows, undL, AV.und, iV, wV, bV, blank, blankL, blankRow]; done)
                | (simp [FgtOk, undT, undEs, undEs.undRows, undL, AV.und, iV, wV, bV, blank, blankL, blankRow]; exact hE1 _ _ (by simp [undEs, undEs.undRows, undL, AV.und, iV, wV, bV]))
            · first | (simp [bIf_rec, pIf_rec, bNot_rec, hb, hi, hp, Int.ofNat_eq_natCast, oConds, strip, St.ev, hpr]; done) | (simp only [bIf_rec, pIf_rec, bNot_rec, hb, hi, hp, Int.ofNat_eq_natCast]; done) | (simp [bIf_rec, pIf_rec, bNot_rec, hb, hi, hp, Int.ofNat_eq_natCast, oConds, strip, St.ev, hpr]; (repeat' apply And.intro) <;> first | exact Int.NonNeg.mk _ | omega)
          · rename_i h
            rw [hb] at h
            simp at h
        · simp only
          conv => arg 4; cbv
          split
          · rename_i h
            simp only [h]
            conv => arg 4; cbv
            have ekk : (Bool.rec (motive := fun _ => Bool) (ob fun _ => (7 : Int) == 7) true (ob fun _ => (7 : Int) == 6)) = true := by rw [hb, hb]; rfl
            refine roundG_next 8 ?_ ?_ ?_ (fun e he => by cases he) ?_ ?_
            · (conv => lhs; cbv); (conv => rhs; cbv)
              rw [show (oi fun _ => IntKind.wrap .i64 (7 + 1)) = 8 from by rw [hi]; rfl, ekk]
              try rfl
            · omega
            · omega
            · first
                | (simp [FgtOk, undT, undEs, undEs.undRows, undL, AV.und, iV, wV, bV, blank, blankL, blankRow]; done)
                | (simp [FgtOk, undT, undEs, undEs.undRows, undL, AV.und, iV, wV, bV, blank, blankL, blankRow]; exact hE1 _ _ (by simp [undEs, undEs.undRows, undL, AV.und, iV, wV, bV]))
            · first | (simp [bIf_rec, pIf_rec, bNot_rec, hb, hi, hp, Int.ofNat_eq_natCast, oConds, strip, St.ev, hpr]; done) | (simp only [bIf_rec, pIf_rec, bNot_rec, hb, hi, hp, Int.ofNat_eq_natCast]; done) | (simp [bIf_rec, pIf_rec, bNot_rec, hb, hi, hp, Int.ofNat_eq_natCast, oConds, strip, St.ev, hpr]; (repeat' apply And.intro) <;> first | exact Int.NonNeg.mk _ | omega)
          · rename_i h
            rw [hb] at h
            simp at h
        · simp only
          conv => arg 4; cbv
          split
          · rename_i h
            rw [hb] at h
            simp at h
          · rename_i h
            simp only [h]
            conv => arg 4; cbv
            refine roundG_out hω ?_ (fun h => by cases h) ?_
            · conv => arg 4; cbv
              simp only [elk]
              refine roundG_next (n + 2, app rows wp base, ⟨[r0, r1, r2, r3, r4, r5, v5, base], false, v1, lk⟩) ?_ ?_ ?_ (fun e he => by cases he) ?_ ?_
              · (conv => lhs; cbv); (conv => rhs; cbv)
                rw [hn, hr, ← happ]; rfl
              · have h9 := hN _ hU2
                exact h9
              · simp only [rwMu]; omega
              · first
                  | (simp [FgtOk, undT, undEs, undEs.undRows, undL, AV.und, iV, wV, bV, blank, blankL, blankRow]; done)
                  | (simp [FgtOk, undT, undEs, undEs.undRows, undL, AV.und, iV, wV, bV, blank, blankL, blankRow]; exact hE1 _ _ (by simp [undEs, undEs.undRows, undL, AV.und, iV, wV, bV]))
              · simp only [hp]
                repeat' apply And.intro
                all_goals first
                  | trivial
                  | exact hpr
                  | omega
                  | exact Int.NonNeg.mk _
                  | (simp only [List.length_singleton]; omega)
                  | (intro i row hrow
                     cases i with
                     | zero => simp at hrow; subst hrow; exact ⟨rfl, rfl⟩
                     | succ i => simp at hrow)
                  | (simp only [bIf_rec, pIf_rec, bNot_rec, hb, hi, hp, Int.ofNat_eq_natCast]; simp; done)
                  | (simp [bIf_rec, pIf_rec, bNot_rec, hb, hi, hp, Int.ofNat_eq_natCast]; (repeat' apply And.intro) <;> exact Int.NonNeg.mk _)
            · simp [bIf_rec, pIf_rec, bNot_rec, hb, hi, hp, Int.ofNat_eq_natCast]
    · rename_i h4
      simp only [h4]
      simp only [bIf_rec, pIf_rec, bNot_rec, hb, hi, hp, Int.ofNat_eq_natCast] at h4
      rw [if_neg (by simp at h4; omega)] at hU2
      conv => arg 4; cbv
      refine meanE_loopG hω [1, 2, 6, 7, 10, 11, 14, 15, 19] 10 (fun i : Nat => match i with
        | 0 => { t := slots 152 [(1, iV k), (2, .op 0 0 0), (6, .op 2 0 0), (7, .os 3 0 8), (10, .gs 7 (n + 1)), (11, .op 8 0 0), (14, wV base), (15, wV v1), (19, iV 0)], B := [], L := [.mem 5 [[.c (.sl rl), .c (.sl rm), .c (.sl rc), .c (.sl ro), bV lz]], E1, .mem 8 [[wV r0, wV r1, wV r2, wV r3, wV r4, wV r5, wV r6, wV base]], .mem 1 [[bV wa], [bV wa], [bV wa], [bV wa], [bV wa], [bV wa], [bV true], [bV true]], .mem 2 [[.any, .any]], .mem 4 [[.any, .any, .any, .any]], .mem 2 [[.any, .any]], .grow 2 76 rows, .mem 2 [[wV wp, wV 0]], .mem 4 [[iV zo, iV zr, iV qa, iV qs]]] }
        | 1 => { t := slots 152 [(1, iV k), (2, .op 0 0 0), (6, .op 2 0 0), (7, .os 3 0 8), (10, .gs 7 (n + 1)), (11, .op 8 0 0), (14, wV base), (15, wV v1), (19, iV 1)], B := [], L := [.mem 5 [[.c (.sl rl), .c (.sl rm), .c (.sl rc), .c (.sl ro), bV lz]], E1, .mem 8 [[wV r0, wV r1, wV r2, wV r3, wV r4, wV r5, wV r6, wV base]], .mem 1 [[bV false], [bV wa], [bV wa], [bV wa], [bV wa], [bV wa], [bV true], [bV true]], .mem 2 [[.any, .any]], .mem 4 [[.any, .any, .any, .any]], .mem 2 [[.any, .any]], .grow 2 76 rows, .mem 2 [[wV wp, wV 0]], .mem 4 [[iV zo, iV zr, iV qa, iV qs]]] }
        | 2 => { t := slots 152 [(1, iV k), (2, .op 0 0 0), (6, .op 2 0 0), (7, .os 3 0 8), (10, .gs 7 (n + 1)), (11, .op 8 0 0), (14, wV base), (15, wV v1), (19, iV 2)], B := [], L := [.mem 5 [[.c (.sl rl), .c (.sl rm), .c (.sl rc), .c (.sl ro), bV lz]], E1, .mem 8 [[wV r0, wV r1, wV r2, wV r3, wV r4, wV r5, wV r6, wV base]], .mem 1 [[bV false], [bV false], [bV wa], [bV wa], [bV wa], [bV wa], [bV true], [bV true]], .mem 2 [[.any, .any]], .mem 4 [[.any, .any, .any, .any]], .mem 2 [[.any, .any]], .grow 2 76 rows, .mem 2 [[wV wp, wV 0]], .mem 4 [[iV zo, iV zr, iV qa, iV qs]]] }
        | 3 => { t := slots 152 [(1, iV k), (2, .op 0 0 0), (6, .op 2 0 0), (7, .os 3 0 8), (10, .gs 7 (n + 1)), (11, .op 8 0 0), (14, wV base), (15, wV v1), (19, iV 3)], B := [], L := [.mem 5 [[.c (.sl rl), .c (.sl rm), .c (.sl rc), .c (.sl ro), bV lz]], E1, .mem 8 [[wV r0, wV r1, wV r2, wV r3, wV r4, wV r5, wV r6, wV base]], .mem 1 [[bV false], [bV false], [bV false], [bV wa], [bV wa], [bV wa], [bV true], [bV true]], .mem 2 [[.any, .any]], .mem 4 [[.any, .any, .any, .any]], .mem 2 [[.any, .any]], .grow 2 76 rows, .mem 2 [[wV wp, wV 0]], .mem 4 [[iV zo, iV zr, iV qa, iV qs]]] }
        | 4 => { t := slots 152 [(1, iV k), (2, .op 0 0 0), (6, .op 2 0 0), (7, .os 3 0 8), (10, .gs 7 (n + 1)), (11, .op 8 0 0), (14, wV base), (15, wV v1), (19, iV 4)], B := [], L := [.mem 5 [[.c (.sl rl), .c (.sl rm), .c (.sl rc), .c (.sl ro), bV lz]], E1, .mem 8 [[wV r0, wV r1, wV r2, wV r3, wV r4, wV r5, wV r6, wV base]], .mem 1 [[bV false], [bV false], [bV false], [bV false], [bV wa], [bV wa], [bV true], [bV true]], .mem 2 [[.any, .any]], .mem 4 [[.any, .any, .any, .any]], .mem 2 [[.any, .any]], .grow 2 76 rows, .mem 2 [[wV wp, wV 0]], .mem 4 [[iV zo, iV zr, iV qa, iV qs]]] }
        | 5 => { t := slots 152 [(1, iV k), (2, .op 0 0 0), (6, .op 2 0 0), (7, .os 3 0 8), (10, .gs 7 (n + 1)), (11, .op 8 0 0), (14, wV base), (15, wV v1), (19, iV 5)], B := [], L := [.mem 5 [[.c (.sl rl), .c (.sl rm), .c (.sl rc), .c (.sl ro), bV lz]], E1, .mem 8 [[wV r0, wV r1, wV r2, wV r3, wV r4, wV r5, wV r6, wV base]], .mem 1 [[bV false], [bV false], [bV false], [bV false], [bV false], [bV wa], [bV true], [bV true]], .mem 2 [[.any, .any]], .mem 4 [[.any, .any, .any, .any]], .mem 2 [[.any, .any]], .grow 2 76 rows, .mem 2 [[wV wp, wV 0]], .mem 4 [[iV zo, iV zr, iV qa, iV qs]]] }
        | 6 => { t := slots 152 [(1, iV k), (2, .op 0 0 0), (6, .op 2 0 0), (7, .os 3 0 8), (10, .gs 7 (n + 1)), (11, .op 8 0 0), (14, wV base), (15, wV v1), (19, iV 6)], B := [], L := [.mem 5 [[.c (.sl rl), .c (.sl rm), .c (.sl rc), .c (.sl ro), bV lz]], E1, .mem 8 [[wV r0, wV r1, wV r2, wV r3, wV r4, wV r5, wV r6, wV base]], .mem 1 [[bV false], [bV false], [bV false], [bV false], [bV false], [bV false], [bV true], [bV true]], .mem 2 [[.any, .any]], .mem 4 [[.any, .any, .any, .any]], .mem 2 [[.any, .any]], .grow 2 76 rows, .mem 2 [[wV wp, wV 0]], .mem 4 [[iV zo, iV zr, iV qa, iV qs]]] }
        | 7 => { t := slots 152 [(1, iV k), (2, .op 0 0 0), (6, .op 2 0 0), (7, .os 3 0 8), (10, .gs 7 (n + 1)), (11, .op 8 0 0), (14, wV base), (15, wV v1), (19, iV 7)], B := [], L := [.mem 5 [[.c (.sl rl), .c (.sl rm), .c (.sl rc), .c (.sl ro), bV lz]], E1, .mem 8 [[wV r0, wV r1, wV r2, wV r3, wV r4, wV r5, wV r6, wV base]], .mem 1 [[bV false], [bV false], [bV false], [bV false], [bV false], [bV false], [bV true], [bV true]], .mem 2 [[.any, .any]], .mem 4 [[.any, .any, .any, .any]], .mem 2 [[.any, .any]], .grow 2 76 rows, .mem 2 [[wV wp, wV 0]], .mem 4 [[iV zo, iV zr, iV qa, iV qs]]] }
        | _ => { t := slots 152 [(1, iV k), (2, .op 0 0 0), (6, .op 2 0 0), (7, .os 3 0 8), (10, .gs 7 (n + 1)), (11, .op 8 0 0), (14, wV base), (15, wV v1), (19, iV 8)], B := [], L := [.mem 5 [[.c (.sl rl), .c (.sl rm), .c (.sl rc), .c (.sl ro), bV lz]], E1, .mem 8 [[wV r0, wV r1, wV r2, wV r3, wV r4, wV r5, wV r6, wV base]], .mem 1 [[bV false], [bV false], [bV false], [bV false], [bV false], [bV false], [bV true], [bV true]], .mem 2 [[.any, .any]], .mem 4 [[.any, .any, .any, .any]], .mem 2 [[.any, .any]], .grow 2 76 rows, .mem 2 [[wV wp, wV 0]], .mem 4 [[iV zo, iV zr, iV qa, iV qs]]] }) (fun i => i ≤ 8) (fun i => 8 - i) 0 ?_ (Nat.zero_le _) (fun e he => by cases he) ?_ ?_ ?_
      · (conv => lhs; cbv); (conv => rhs; cbv); try rfl
      · first
          | (simp [FgtOk, undT, undEs, undEs.undRows, undL, AV.und, iV, wV, bV, blank, blankL, blankRow]; done)
          | (simp [FgtOk, undT, undEs, undEs.undRows, undL, AV.und, iV, wV, bV, blank, blankL, blankRow]; exact hE1 _ _ (by simp [undEs, undEs.undRows, undL, AV.und, iV, wV, bV]))
      · first | (simp [bIf_rec, pIf_rec, bNot_rec, hb, hi, hp, Int.ofNat_eq_natCast, oConds, strip, St.ev, hpr]; done) | (simp only [bIf_rec, pIf_rec, bNot_rec, hb, hi, hp, Int.ofNat_eq_natCast]; done) | (simp [bIf_rec, pIf_rec, bNot_rec, hb, hi, hp, Int.ofNat_eq_natCast, oConds, strip, St.ev, hpr]; (repeat' apply And.intro) <;> first | exact Int.NonNeg.mk _ | omega)
      intro i hi8
      have hcs : i = 0 ∨ i = 1 ∨ i = 2 ∨ i = 3 ∨ i = 4 ∨ i = 5 ∨ i = 6 ∨ i = 7 ∨ i = 8 := by omega
      rcases hcs with rfl | rfl | rfl | rfl | rfl | rfl | rfl | rfl | rfl
      · simp only
        conv => arg 4; cbv
        split
        · rename_i h
          simp only [h]
          conv => arg 4; cbv
          have ekk : (Bool.rec (motive := fun _ => Bool) (ob fun _ => (0 : Int) == 7) true (ob fun _ => (0 : Int) == 6)) = false := by rw [hb, hb]; rfl
          refine roundG_next 1 ?_ ?_ ?_ (fun e he => by cases he) ?_ ?_
          · (conv => lhs; cbv); (conv => rhs; cbv)
            rw [show (oi fun _ => IntKind.wrap .i64 (0 + 1)) = 1 from by rw [hi]; rfl, ekk]
            try rfl
          · omega
          · omega
          · first
              | (simp [FgtOk, undT, undEs, undEs.undRows, undL, AV.und, iV, wV, bV, blank, blankL, blankRow]; done)
              | (simp [FgtOk, undT, undEs, undEs.undRows, undL, AV.und, iV, wV, bV, blank, blankL, blankRow]; exact hE1 _ _ (by simp [undEs, undEs.undRows, undL, AV.und, iV, wV, bV]))
          · first | (simp [bIf_rec, pIf_rec, bNot_rec, hb, hi, hp, Int.ofNat_eq_natCast, oConds, strip, St.ev, hpr]; done) | (simp only [bIf_rec, pIf_rec, bNot_rec, hb, hi, hp, Int.ofNat_eq_natCast]; done) | (simp [bIf_rec, pIf_rec, bNot_rec, hb, hi, hp, Int.ofNat_eq_natCast, oConds, strip, St.ev, hpr]; (repeat' apply And.intro) <;> first | exact Int.NonNeg.mk _ | omega)
        · rename_i h
          rw [hb] at h
          simp at h
      · simp only
        conv => arg 4; cbv
        split
        · rename_i h
          simp only [h]
          conv => arg 4; cbv
          have ekk : (Bool.rec (motive := fun _ => Bool) (ob fun _ => (1 : Int) == 7) true (ob fun _ => (1 : Int) == 6)) = false := by rw [hb, hb]; rfl
          refine roundG_next 2 ?_ ?_ ?_ (fun e he => by cases he) ?_ ?_
          · (conv => lhs; cbv); (conv => rhs; cbv)
            rw [show (oi fun _ => IntKind.wrap .i64 (1 + 1)) = 2 from by rw [hi]; rfl, ekk]
            try rfl
          · omega
          · omega
          · first
              | (simp [FgtOk, undT, undEs, undEs.undRows, undL, AV.und, iV, wV, bV, blank, blankL, blankRow]; done)
              | (simp [FgtOk, undT, undEs, undEs.undRows, undL, AV.und, iV, wV, bV, blank, blankL, blankRow]; exact hE1 _ _ (by simp [undEs, undEs.undRows, undL, AV.und, iV, wV, bV]))
          · first | (simp [bIf_rec, pIf_rec, bNot_rec, hb, hi, hp, Int.ofNat_eq_natCast, oConds, strip, St.ev, hpr]; done) | (simp only [bIf_rec, pIf_rec, bNot_rec, hb, hi, hp, Int.ofNat_eq_natCast]; done) | (simp [bIf_rec, pIf_rec, bNot_rec, hb, hi, hp, Int.ofNat_eq_natCast, oConds, strip, St.ev, hpr]; (repeat' apply And.intro) <;> first | exact Int.NonNeg.mk _ | omega)
        · rename_i h
          rw [hb] at h
          simp at h
      · simp only
        conv => arg 4; cbv
        split
        · rename_i h
          simp only [h]
          conv => arg 4; cbv
          have ekk : (Bool.rec (motive := fun _ => Bool) (ob fun _ => (2 : Int) == 7) true (ob fun _ => (2 : Int) == 6)) = false := by rw [hb, hb]; rfl
          refine roundG_next 3 ?_ ?_ ?_ (fun e he => by cases he) ?_ ?_
          · (conv => lhs; cbv); (conv => rhs; cbv)
            rw [show (oi fun _ => IntKind.wrap .i64 (2 + 1)) = 3 from by rw [hi]; rfl, ekk]
            try rfl
          · omega
          · omega
          · first
              | (simp [FgtOk, undT, undEs, undEs.undRows, undL, AV.und, iV, wV, bV, blank, blankL, blankRow]; done)
              | (simp [FgtOk, undT, undEs, undEs.undRows, undL, AV.und, iV, wV, bV, blank, blankL, blankRow]; exact hE1 _ _ (by simp [undEs, undEs.undRows, undL, AV.und, iV, wV, bV]))
          · first | (simp [bIf_rec, pIf_rec, bNot_rec, hb, hi, hp, Int.ofNat_eq_natCast, oConds, strip, St.ev, hpr]; done) | (simp only [bIf_rec, pIf_rec, bNot_rec, hb, hi, hp, Int.ofNat_eq_natCast]; done) | (simp [bIf_rec, pIf_rec, bNot_rec, hb, hi, hp, Int.ofNat_eq_natCast, oConds, strip, St.ev, hpr]; (repeat' apply And.intro) <;> first | exact Int.NonNeg.mk _ | omega)
        · rename_i h
          rw [hb] at h
          simp at h
      · simp only
        conv => arg 4; cbv
        split
        · rename_i h
          simp only [h]
          conv => arg 4; cbv
          have ekk : (Bool.rec (motive := fun _ => Bool) (ob fun _ => (3 : Int) == 7) true (ob fun _ => (3 : Int) == 6)) = false := by rw [hb, hb]; rfl
          refine roundG_next 4 ?_ ?_ ?_ (fun e he => by cases he) ?_ ?_
          · (conv => lhs; cbv); (conv => rhs; cbv)
            rw [show (oi fun _ => IntKind.wrap .i64 (3 + 1)) = 4 from by rw [hi]; rfl, ekk]
            try rfl
          · omega
          · omega
          · first
              | (simp [FgtOk, undT, undEs, undEs.undRows, undL, AV.und, iV, wV, bV, blank, blankL, blankRow]; done)
              | (simp [FgtOk, undT, undEs, undEs.undRows, undL, AV.und, iV, wV, bV, blank, blankL, blankRow]; exact hE1 _ _ (by simp [undEs, undEs.undRows, undL, AV.und, iV, wV, bV]))
          · first | (simp [bIf_rec, pIf_rec, bNot_rec, hb, hi, hp, Int.ofNat_eq_natCast, oConds, strip, St.ev, hpr]; done) | (simp only [bIf_rec, pIf_rec, bNot_rec, hb, hi, hp, Int.ofNat_eq_natCast]; done) | (simp [bIf_rec, pIf_rec, bNot_rec, hb, hi, hp, Int.ofNat_eq_natCast, oConds, strip, St.ev, hpr]; (repeat' apply And.intro) <;> first | exact Int.NonNeg.mk _ | omega)
        · rename_i h
          rw [hb] at h
          simp at h
      · simp only
        conv => arg 4; cbv
        split
        · rename_i h
          simp only [h]
          conv => arg 4; cbv
          have ekk : (Bool.rec (motive := fun _ => Bool) (ob fun _ => (4 : Int) == 7) true (ob fun _ => (4 : Int) == 6)) = false := by rw [hb, hb]; rfl
          refine roundG_next 5 ?_ ?_ ?_ (fun e he => by cases he) ?_ ?_
          · (conv => lhs; cbv); (conv => rhs; cbv)
            rw [show (oi fun _ => IntKind.wrap .i64 (4 + 1)) = 5 from by rw [hi]; rfl, ekk]
            try rfl
          · omega
          · omega
          · first
              | (simp [FgtOk, undT, undEs, undEs.undRows, undL, AV.und, iV, wV, bV, blank, blankL, blankRow]; done)
              | (simp [FgtOk, undT, undEs, undEs.undRows, undL, AV.und, iV, wV, bV, blank, blankL, blankRow]; exact hE1 _ _ (by simp [undEs, undEs.undRows, undL, AV.und, iV, wV, bV]))
          · first | (simp [bIf_rec, pIf_rec, bNot_rec, hb, hi, hp, Int.ofNat_eq_natCast, oConds, strip, St.ev, hpr]; done) | (simp only [bIf_rec, pIf_rec, bNot_rec, hb, hi, hp, Int.ofNat_eq_natCast]; done) | (simp [bIf_rec, pIf_rec, bNot_rec, hb, hi, hp, Int.ofNat_eq_natCast, oConds, strip, St.ev, hpr]; (repeat' apply And.intro) <;> first | exact Int.NonNeg.mk _ | omega)
        · rename_i h
          rw [hb] at h
          simp at h
      · simp only
        conv => arg 4; cbv
        split
        · rename_i h
          simp only [h]
          conv => arg 4; cbv
          have ekk : (Bool.rec (motive := fun _ => Bool) (ob fun _ => (5 : Int) == 7) true (ob fun _ => (5 : Int) == 6)) = false := by rw [hb, hb]; rfl
          refine roundG_next 6 ?_ ?_ ?_ (fun e he => by cases he) ?_ ?_
          · (conv => lhs; cbv); (conv => rhs; cbv)
            rw [show (oi fun _ => IntKind.wrap .i64 (5 + 1)) = 6 from by rw [hi]; rfl, ekk]
            try rfl
          · omega
          · omega
          · first
              | (simp [FgtOk, undT, undEs, undEs.undRows, undL, AV.und, iV, wV, bV, blank, blankL, blankRow]; done)
              | (simp [FgtOk, undT, undEs, undEs.undRows, undL, AV.und, iV, wV, bV, blank, blankL, blankRow]; exact hE1 _ _ (by simp [undEs, undEs.undRows, undL, AV.und, iV, wV, bV]))
          · first | (simp [bIf_rec, pIf_rec, bNot_rec, hb, hi, hp, Int.ofNat_eq_natCast, oConds, strip, St.ev, hpr]; done) | (simp only [bIf_rec, pIf_rec, bNot_rec, hb, hi, hp, Int.ofNat_eq_natCast]; done) | (simp [bIf_rec, pIf_rec, bNot_rec, hb, hi, hp, Int.ofNat_eq_natCast, oConds, strip, St.ev, hpr]; (repeat' apply And.intro) <;> first | exact Int.NonNeg.mk _ | omega)
        · rename_i h
          rw [hb] at h
          simp at h
      · simp only
        conv => arg 4; cbv
        split
        · rename_i h
          simp only [h]
          conv => arg 4; cbv
          have ekk : (Bool.rec (motive := fun _ => Bool) (ob fun _ => (6 : Int) == 7) true (ob fun _ => (6 : Int) == 6)) = true := by rw [hb, hb]; rfl
          refine roundG_next 7 ?_ ?_ ?_ (fun e he => by cases he) ?_ ?_
          · (conv => lhs; cbv); (conv => rhs; cbv)
            rw [show (oi fun _ => IntKind.wrap .i64 (6 + 1)) = 7 from by rw [hi]; rfl, ekk]
            try rfl
          · omega
          · omega
          · first
              | (simp [FgtOk, undT, undEs, undEs.undRows, undL, AV.und, iV, wV, bV, blank, blankL, blankRow]; done)
              | (simp [FgtOk, undT, undEs, undEs.undRows, undL, AV.und, iV, wV, bV, blank, blankL, blankRow]; exact hE1 _ _ (by simp [undEs, undEs.undRows, undL, AV.und, iV, wV, bV]))
          · first | (simp [bIf_rec, pIf_rec, bNot_rec, hb, hi, hp, Int.ofNat_eq_natCast, oConds, strip, St.ev, hpr]; done) | (simp only [bIf_rec, pIf_rec, bNot_rec, hb, hi, hp, Int.ofNat_eq_natCast]; done) | (simp [bIf_rec, pIf_rec, bNot_rec, hb, hi, hp, Int.ofNat_eq_natCast, oConds, strip, St.ev, hpr]; (repeat' apply And.intro) <;> first | exact Int.NonNeg.mk _ | omega)
        · rename_i h
          rw [hb] at h
          simp at h
      · simp only
        conv => arg 4; cbv
        split
        · rename_i h
          simp only [h]
          conv => arg 4; cbv
          have ekk : (Bool.rec (motive := fun _ => Bool) (ob fun _ => (7 : Int) == 7) true (ob fun _ => (7 : Int) == 6)) = true := by rw [hb, hb]; rfl
          refine roundG_next 8 ?_ ?_ ?_ (fun e he => by cases he) ?_ ?_
          · (conv => lhs; cbv); (conv => rhs; cbv)
            rw [show (oi fun _ => IntKind.wrap .i64 (7 + 1)) = 8 from by rw [hi]; rfl, ekk]
            try rfl
          · omega
          · omega
          · first
              | (simp [FgtOk, undT, undEs, undEs.undRows, undL, AV.und, iV, wV, bV, blank, blankL, blankRow]; done)
              | (simp [FgtOk, undT, undEs, undEs.undRows, undL, AV.und, iV, wV, bV, blank, blankL, blankRow]; exact hE1 _ _ (by simp [undEs, undEs.undRows, undL, AV.und, iV, wV, bV]))
          · first | (simp [bIf_rec, pIf_rec, bNot_rec, hb, hi, hp, Int.ofNat_eq_natCast, oConds, strip, St.ev, hpr]; done) | (simp only [bIf_rec, pIf_rec, bNot_rec, hb, hi, hp, Int.ofNat_eq_natCast]; done) | (simp [bIf_rec, pIf_rec, bNot_rec, hb, hi, hp, Int.ofNat_eq_natCast, oConds, strip, St.ev, hpr]; (repeat' apply And.intro) <;> first | exact Int.NonNeg.mk _ | omega)
        · rename_i h
          rw [hb] at h
          simp at h
      · simp only
        conv => arg 4; cbv
        split
        · rename_i h
          rw [hb] at h
          simp at h
        · rename_i h
          simp only [h]
          conv => arg 4; cbv
          refine roundG_out hω ?_ (fun h => by cases h) ?_
          · conv => arg 4; cbv
            simp only [elk]
            refine roundG_next (n + 2, app rows wp base, ⟨[r0, r1, r2, r3, r4, r5, r6, base], false, v1, lk⟩) ?_ ?_ ?_ (fun e he => by cases he) ?_ ?_
            · (conv => lhs; cbv); (conv => rhs; cbv)
              rw [hn, hr, ← happ]; rfl
            · have h9 := hN _ hU2
              exact h9
            · simp only [rwMu]; omega
            · first
                | (simp [FgtOk, undT, undEs, undEs.undRows, undL, AV.und, iV, wV, bV, blank, blankL, blankRow]; done)
                | (simp [FgtOk, undT, undEs, undEs.undRows, undL, AV.und, iV, wV, bV, blank, blankL, blankRow]; exact hE1 _ _ (by simp [undEs, undEs.undRows, undL, AV.und, iV, wV, bV]))
            · simp only [hp]
              repeat' apply And.intro
              all_goals first
                | trivial
                | exact hpr
                | omega
                | exact Int.NonNeg.mk _
                | (simp only [List.length_singleton]; omega)
                | (intro i row hrow
                   cases i with
                   | zero => simp at hrow; subst hrow; exact ⟨rfl, rfl⟩
                   | succ i => simp at hrow)
                | (simp only [bIf_rec, pIf_rec, bNot_rec, hb, hi, hp, Int.ofNat_eq_natCast]; simp; done)
                | (simp [bIf_rec, pIf_rec, bNot_rec, hb, hi, hp, Int.ofNat_eq_natCast]; (repeat' apply And.intro) <;> exact Int.NonNeg.mk _)
          · simp [bIf_rec, pIf_rec, bNot_rec, hb, hi, hp, Int.ofNat_eq_natCast]

end Go.Den.Z
