/-
  Part of the proof that FramesMatchSpec returns true: the walk of the reference, middle part, first memory.
  No condition.
-/
import Derived.Test.YtkimkplgmifckaaGreatE2
set_option linter.unusedSimpArgs false
set_option linter.unusedVariables false
set_option maxRecDepth 20000
set_option maxHeartbeats 8000000
namespace Go.Den.Z
open Go.Proofs
theorem rwB0 (p : Prc) (hpw : p.Wf) (rl rm rc ro : List (List CV)) (lz : Bool) (k : Int) (buf : List Pnd) (RES : List (List CV)) (E1 : Ent) (hE1 : ∀ n r, undEs n r → undEs n (E1 :: r)) (hseen : ∀ a, u32r a → ∃ v : Int × Bool, v = optR (wordOf p.mem buf a) ∧ PCalls P 36 [agg [.sl rl, .sl rm, .sl rc, .sl ro, bC lz], iV k, wV a] [] (.tu [wV v.1, bV v.2])) (app : List (List CV) → Int → Int → List (List CV)) (happ : ∀ l a b, app l a b = l ++ [[.sc (.int .u32 a), .sc (.int .u32 b)]]) (r0 r1 r2 r3 r4 r5 r6 r7 : Int) (wa : Bool) (wp wlk : Int) (U : Option (Int × Wk)) (rows : List (List CV)) (hrows : rows = []) (hn40 : 0 < 40) (hS : U = none → app rows wp 0 = RES) (hN : ∀ x, U = some x → rwInv p buf RES (0 + 1, app rows wp x.1, x.2)) (oi : (Unit → Int) → Int) (ob : (Unit → Bool) → Bool) (op : (Unit → Prop) → Prop) (os : (Unit → ByteArray) → ByteArray) (on : (Unit → Nat) → Nat) (or_ : (Unit → List (List CV)) → List (List CV)) (om : (Unit → List (List AV)) → List (List AV)) (hω : Om.Real ⟨oi, ob, op, os, on, or_, om⟩) (qr qa qs zo : Int) (hqr : -1 ≤ qr ∧ qr ≤ 7) (hqs : -1048576 ≤ qs ∧ qs ≤ 0) (hneg : qr < 0 → U = none) (hpos : 0 ≤ qr → U = upRow p buf ⟨[r0, r1, r2, r3, r4, r5, r6, r7], wa, wp, wlk⟩ ⟨zo, qr, qa, qs⟩) (j0 j3 j4 j5 j8 j9 j12 j14 j15 j16 j17 j18 j19 j20 j21 j22 j23 j24 j25 j26 j27 j28 j29 j30 j31 j32 j33 j34 j35 j36 j37 j38 j39 j40 j41 j42 j43 j44 j45 j46 j47 j48 j49 j50 j51 j52 j53 j54 j55 j56 j57 j58 j59 j60 j61 j62 j63 j64 j65 j66 j67 j68 j69 j70 j71 j72 j73 j74 j75 j76 j77 j78 j79 j80 j81 j82 j83 j84 j85 j86 j87 j88 j89 j90 j91 j92 j93 j94 j95 j96 j97 j98 j99 j100 j101 j102 j103 j104 j105 j106 j107 j108 j109 j110 j111 j112 j113 j114 j115 j116 j117 j118 j119 j120 j121 j122 j123 j124 j125 j126 j127 j128 j129 j130 j131 j132 j133 j134 j135 j136 j137 j138 j139 j140 j141 j142 j143 j144 j145 j146 j147 j148 j149 j150 j151 : AV) (pr : Prop) (hpr : pr) :
    MeanE P (RoundFG (fun v => v = RES) (rwInv p buf RES) rwMu (0, rows, ⟨[r0, r1, r2, r3, r4, r5, r6, r7], wa, wp, wlk⟩)) (RoundQG P (fun v => EndsR [RV.tmp 4] fun r' H' => r' = AV.c (.sl v) ∧ H' = []) rwK [1, 2, 6, 7, 8, 9, 10] 8 (rwHd rl rm rc ro lz E1 k)) (runc ⟨oi, ob, op, os, on, or_, om⟩ 90000 (.code c_rwB) (.blk 1 .nil) { t := [j0, iV k, .op 0 0 0, j3, j4, j5, .op 2 0 0, .os 3 0 8, j8, j9, .c (.sc (.slice none 0 0)), .op 4 0 0, j12, .op 5 0 0, j14, j15, j16, j17, j18, j19, j20, j21, j22, j23, j24, j25, j26, j27, j28, j29, j30, j31, j32, j33, j34, j35, j36, j37, j38, j39, j40, j41, j42, j43, j44, j45, j46, j47, j48, j49, j50, j51, j52, j53, j54, j55, j56, j57, j58, j59, j60, j61, j62, j63, j64, j65, j66, j67, j68, j69, j70, j71, j72, j73, j74, j75, j76, j77, j78, j79, j80, j81, j82, j83, j84, j85, j86, j87, j88, j89, j90, j91, j92, j93, j94, j95, j96, j97, j98, j99, j100, j101, j102, j103, j104, j105, j106, j107, j108, j109, j110, j111, j112, j113, j114, j115, j116, j117, j118, j119, j120, j121, j122, j123, j124, j125, j126, j127, j128, j129, j130, j131, j132, j133, j134, j135, j136, j137, j138, j139, j140, j141, j142, j143, j144, j145, j146, j147, j148, j149, j150, j151], B := [], L := [.mem 5 [[.c (.sl rl), .c (.sl rm), .c (.sl rc), .c (.sl ro), bV lz]], E1, .mem 8 [[wV r0, wV r1, wV r2, wV r3, wV r4, wV r5, wV r6, wV r7]], .mem 1 [[bV wa], [bV wa], [bV wa], [bV wa], [bV wa], [bV wa], [bV true], [bV true]], .mem 2 [[wV wp, wV 0]], .mem 4 [[iV zo, iV qr, iV qa, iV qs]]] } pr) := by
  have hi : ∀ f, oi f = f () := hω.i
  have hb : ∀ f, ob f = f () := hω.b
  have hp : ∀ f, op f = f () := hω.p
  have hs : ∀ f, os f = f () := hω.s
  have hr : ∀ f, or_ f = f () := hω.r
  have hn : ∀ f, on f = f () := hω.n
  have hC := fun (base zo zr : Int) hbu hU2 => rwC0 p hpw rl rm rc ro lz k buf RES E1 hE1 hseen app happ r0 r1 r2 r3 r4 r5 r6 r7 wa wp wlk U rows hrows hn40 hS hN oi ob op os on or_ om hω base qa qs zo zr hqs hbu hU2
  simp only [upRow] at hpos
  have hq9 : qr = -1 ∨ qr = 0 ∨ qr = 1 ∨ qr = 2 ∨ qr = 3 ∨ qr = 4 ∨ qr = 5 ∨ qr = 6 ∨ qr = 7 := by omega
  unfold c_rwB
  obtain ⟨N, hNN⟩ : ∃ N : Nat, N = 89967 := ⟨_, rfl⟩
  obtain ⟨C, hCC⟩ : ∃ C, C = c_rwC := ⟨_, rfl⟩
  rw [← hCC]
  rcases hq9 with rfl | rfl | rfl | rfl | rfl | rfl | rfl | rfl | rfl
  · have hU0 := hneg (by decide)
    conv => arg 4; cbv
    split
    · rename_i h3
      conv => arg 4; cbv
      refine roundG_out hω ?_ (fun h => by cases h) ?_
      · conv => arg 4; cbv
        refine meanE_fin hω _ (by (conv => lhs; cbv); all_goals rfl) ⟨rfl, rfl⟩ ?_ (fun e he => by cases he) ?_ ?_
        · rw [← hS hU0, happ]
          rw [hr, hn, hrows]; rfl
        · first | trivial | (simp [bIf_rec, pIf_rec, bNot_rec, hb, hi, hp, Int.ofNat_eq_natCast]; done)
        · simp
      · simp only [hp]
        repeat' apply And.intro
        all_goals first
          | trivial
          | exact hpr
          | omega
          | exact Int.NonNeg.mk _
          | (simp only [List.length_singleton]; omega)
          | (intro i row hrow
             cases i with
             | zero => simp at hrow; subst hrow; exact ⟨rfl, rfl⟩
             | succ i => simp at hrow)
          | (simp only [bIf_rec, pIf_rec, bNot_rec, hb, hi, hp, Int.ofNat_eq_natCast]; simp; done)
          | (simp [bIf_rec, pIf_rec, bNot_rec, hb, hi, hp, Int.ofNat_eq_natCast]; (repeat' apply And.intro) <;> exact Int.NonNeg.mk _)
    · rename_i h3
      exfalso
      simp only [bIf_rec, pIf_rec, bNot_rec, hb, hi, hp, Int.ofNat_eq_natCast, condT] at h3
      simp at h3
  · cases wa
    · have hU0 : U = none := by rw [hpos (by decide), if_pos (.inr ⟨rfl, by decide⟩)]
      conv => arg 4; cbv
      split
      · rename_i h3
        conv => arg 4; cbv
        refine roundG_out hω ?_ (fun h => by cases h) ?_
        · conv => arg 4; cbv
          refine meanE_fin hω _ (by (conv => lhs; cbv); all_goals rfl) ⟨rfl, rfl⟩ ?_ (fun e he => by cases he) ?_ ?_
          · rw [← hS hU0, happ]
            rw [hr, hn, hrows]; rfl
          · first | trivial | (simp [bIf_rec, pIf_rec, bNot_rec, hb, hi, hp, Int.ofNat_eq_natCast]; done)
          · simp
        · simp only [hp]
          repeat' apply And.intro
          all_goals first
            | trivial
            | exact hpr
            | omega
            | exact Int.NonNeg.mk _
            | (simp only [List.length_singleton]; omega)
            | (intro i row hrow
               cases i with
               | zero => simp at hrow; subst hrow; exact ⟨rfl, rfl⟩
               | succ i => simp at hrow)
            | (simp only [bIf_rec, pIf_rec, bNot_rec, hb, hi, hp, Int.ofNat_eq_natCast]; simp; done)
            | (simp [bIf_rec, pIf_rec, bNot_rec, hb, hi, hp, Int.ofNat_eq_natCast]; (repeat' apply And.intro) <;> exact Int.NonNeg.mk _)
      · rename_i h3
        exfalso
        simp only [bIf_rec, pIf_rec, bNot_rec, hb, hi, hp, Int.ofNat_eq_natCast, condT] at h3
        simp at h3
    · obtain ⟨base, hbase⟩ : ∃ b : Int, b = u32 (r0 + u32 qa) := ⟨_, rfl⟩
      have e1 : (oi fun _ => IntKind.u32.wrap (r0 + (oi fun _ => IntKind.u32.wrap qa))) = base := by rw [hi, hi, hbase]; rfl
      have hU2 : U = (wordOf p.mem buf (u32 (base - 4))).bind fun pc => (if qs < 0 then wordOf p.mem buf (u32 (base + u32 qs)) else some r6).map fun fp => (base, ⟨[r0, r1, r2, r3, r4, r5, fp, base], false, pc, pc - 1⟩) := by
        rw [hpos (by decide), if_neg (by simp), hbase]; rfl
      have hbu : u32r base := by rw [hbase]; exact u32_range _
      rw [show (90000 : Nat) = Nat.succ (Nat.succ (Nat.succ (Nat.succ (Nat.succ (Nat.succ (Nat.succ (Nat.succ (Nat.succ (Nat.succ (Nat.succ (Nat.succ (Nat.succ (Nat.succ (Nat.succ (Nat.succ (Nat.succ (Nat.succ (Nat.succ (Nat.succ (Nat.succ (Nat.succ (Nat.succ (Nat.succ (Nat.succ (Nat.succ (Nat.succ (Nat.succ (Nat.succ (Nat.succ (Nat.succ (Nat.succ (Nat.succ (N))))))))))))))))))))))))))))))))) from by rw [hNN]]
      conv => arg 4; cbv
      split
      · rename_i h3
        exfalso
        simp only [bIf_rec, pIf_rec, bNot_rec, hb, hi, hp, Int.ofNat_eq_natCast, condT] at h3
        simp at h3
      · rename_i h3
        simp only [h3]
        conv => arg 4; cbv
        simp only [e1]
        clear e1 hbase
        rw [hCC, ← runc.eq_def ⟨oi, ob, op, os, on, or_, om⟩ N]
        refine meanE_le (n := 80000) (m := N) (by omega) (hC base zo 0 hbu hU2 _ _ _ _ _ _ _ _ _ _ _ _ _ _ _ _ _ _ _ _ _ _ _ _ _ _ _ _ _ _ _ _ _ _ _ _ _ _ _ _ _ _ _ _ _ _ _ _ _ _ _ _ _ _ _ _ _ _ _ _ _ _ _ _ _ _ _ _ _ _ _ _ _ _ _ _ _ _ _ _ _ _ _ _ _ _ _ _ _ _ _ _ _ _ _ _ _ _ _ _ _ _ _ _ _ _ _ _ _ _ _ _ _ _ _ _ _ _ _ _ _ _ _ _ _ _ _ _ _ _ _ _ _ _ _ _ _ _ _ _ _ _ _ _ _ ?_)
        first | (simp [bIf_rec, pIf_rec, bNot_rec, hb, hi, hp, Int.ofNat_eq_natCast, oConds, strip, St.ev, hpr]; done) | (simp only [bIf_rec, pIf_rec, bNot_rec, hb, hi, hp, Int.ofNat_eq_natCast]; done) | (simp [bIf_rec, pIf_rec, bNot_rec, hb, hi, hp, Int.ofNat_eq_natCast, oConds, strip, St.ev, hpr]; (repeat' apply And.intro) <;> first | exact Int.NonNeg.mk _ | omega)
  · cases wa
    · have hU0 : U = none := by rw [hpos (by decide), if_pos (.inr ⟨rfl, by decide⟩)]
      conv => arg 4; cbv
      split
      · rename_i h3
        conv => arg 4; cbv
        refine roundG_out hω ?_ (fun h => by cases h) ?_
        · conv => arg 4; cbv
          refine meanE_fin hω _ (by (conv => lhs; cbv); all_goals rfl) ⟨rfl, rfl⟩ ?_ (fun e he => by cases he) ?_ ?_
          · rw [← hS hU0, happ]
            rw [hr, hn, hrows]; rfl
          · first | trivial | (simp [bIf_rec, pIf_rec, bNot_rec, hb, hi, hp, Int.ofNat_eq_natCast]; done)
          · simp
        · simp only [hp]
          repeat' apply And.intro
          all_goals first
            | trivial
            | exact hpr
            | omega
            | exact Int.NonNeg.mk _
            | (simp only [List.length_singleton]; omega)
            | (intro i row hrow
               cases i with
               | zero => simp at hrow; subst hrow; exact ⟨rfl, rfl⟩
               | succ i => simp at hrow)
            | (simp only [bIf_rec, pIf_rec, bNot_rec, hb, hi, hp, Int.ofNat_eq_natCast]; simp; done)
            | (simp [bIf_rec, pIf_rec, bNot_rec, hb, hi, hp, Int.ofNat_eq_natCast]; (repeat' apply And.intro) <;> exact Int.NonNeg.mk _)
      · rename_i h3
        exfalso
        simp only [bIf_rec, pIf_rec, bNot_rec, hb, hi, hp, Int.ofNat_eq_natCast, condT] at h3
        simp at h3
    · obtain ⟨base, hbase⟩ : ∃ b : Int, b = u32 (r1 + u32 qa) := ⟨_, rfl⟩
      have e1 : (oi fun _ => IntKind.u32.wrap (r1 + (oi fun _ => IntKind.u32.wrap qa))) = base := by rw [hi, hi, hbase]; rfl
      have hU2 : U = (wordOf p.mem buf (u32 (base - 4))).bind fun pc => (if qs < 0 then wordOf p.mem buf (u32 (base + u32 qs)) else some r6).map fun fp => (base, ⟨[r0, r1, r2, r3, r4, r5, fp, base], false, pc, pc - 1⟩) := by
        rw [hpos (by decide), if_neg (by simp), hbase]; rfl
      have hbu : u32r base := by rw [hbase]; exact u32_range _
      rw [show (90000 : Nat) = Nat.succ (Nat.succ (Nat.succ (Nat.succ (Nat.succ (Nat.succ (Nat.succ (Nat.succ (Nat.succ (Nat.succ (Nat.succ (Nat.succ (Nat.succ (Nat.succ (Nat.succ (Nat.succ (Nat.succ (Nat.succ (Nat.succ (Nat.succ (Nat.succ (Nat.succ (Nat.succ (Nat.succ (Nat.succ (Nat.succ (Nat.succ (Nat.succ (Nat.succ (Nat.succ (Nat.succ (Nat.succ (Nat.succ (N))))))))))))))))))))))))))))))))) from by rw [hNN]]
      conv => arg 4; cbv
      split
      · rename_i h3
        exfalso
        simp only [bIf_rec, pIf_rec, bNot_rec, hb, hi, hp, Int.ofNat_eq_natCast, condT] at h3
        simp at h3
      · rename_i h3
        simp only [h3]
        conv => arg 4; cbv
        simp only [e1]
        clear e1 hbase
        rw [hCC, ← runc.eq_def ⟨oi, ob, op, os, on, or_, om⟩ N]
        refine meanE_le (n := 80000) (m := N) (by omega) (hC base zo 1 hbu hU2 _ _ _ _ _ _ _ _ _ _ _ _ _ _ _ _ _ _ _ _ _ _ _ _ _ _ _ _ _ _ _ _ _ _ _ _ _ _ _ _ _ _ _ _ _ _ _ _ _ _ _ _ _ _ _ _ _ _ _ _ _ _ _ _ _ _ _ _ _ _ _ _ _ _ _ _ _ _ _ _ _ _ _ _ _ _ _ _ _ _ _ _ _ _ _ _ _ _ _ _ _ _ _ _ _ _ _ _ _ _ _ _ _ _ _ _ _ _ _ _ _ _ _ _ _ _ _ _ _ _ _ _ _ _ _ _ _ _ _ _ _ _ _ _ _ ?_)
        first | (simp [bIf_rec, pIf_rec, bNot_rec, hb, hi, hp, Int.ofNat_eq_natCast, oConds, strip, St.ev, hpr]; done) | (simp only [bIf_rec, pIf_rec, bNot_rec, hb, hi, hp, Int.ofNat_eq_natCast]; done) | (simp [bIf_rec, pIf_rec, bNot_rec, hb, hi, hp, Int.ofNat_eq_natCast, oConds, strip, St.ev, hpr]; (repeat' apply And.intro) <;> first | exact Int.NonNeg.mk _ | omega)
  · cases wa
    · have hU0 : U = none := by rw [hpos (by decide), if_pos (.inr ⟨rfl, by decide⟩)]
      conv => arg 4; cbv
      split
      · rename_i h3
        conv => arg 4; cbv
        refine roundG_out hω ?_ (fun h => by cases h) ?_
        · conv => arg 4; cbv
          refine meanE_fin hω _ (by (conv => lhs; cbv); all_goals rfl) ⟨rfl, rfl⟩ ?_ (fun e he => by cases he) ?_ ?_
          · rw [← hS hU0, happ]
            rw [hr, hn, hrows]; rfl
          · first | trivial | (simp [bIf_rec, pIf_rec, bNot_rec, hb, hi, hp, Int.ofNat_eq_natCast]; done)
          · simp
        · simp only [hp]
          repeat' apply And.intro
          all_goals first
            | trivial
            | exact hpr
            | omega
            | exact Int.NonNeg.mk _
            | (simp only [List.length_singleton]; omega)
            | (intro i row hrow
               cases i with
               | zero => simp at hrow; subst hrow; exact ⟨rfl, rfl⟩
               | succ i => simp at hrow)
            | (simp only [bIf_rec, pIf_rec, bNot_rec, hb, hi, hp, Int.ofNat_eq_natCast]; simp; done)
            | (simp [bIf_rec, pIf_rec, bNot_rec, hb, hi, hp, Int.ofNat_eq_natCast]; (repeat' apply And.intro) <;> exact Int.NonNeg.mk _)
      · rename_i h3
        exfalso
        simp only [bIf_rec, pIf_rec, bNot_rec, hb, hi, hp, Int.ofNat_eq_natCast, condT] at h3
        simp at h3
    · obtain ⟨base, hbase⟩ : ∃ b : Int, b = u32 (r2 + u32 qa) := ⟨_, rfl⟩
      have e1 : (oi fun _ => IntKind.u32.wrap (r2 + (oi fun _ => IntKind.u32.wrap qa))) = base := by rw [hi, hi, hbase]; rfl
      have hU2 : U = (wordOf p.mem buf (u32 (base - 4))).bind fun pc => (if qs < 0 then wordOf p.mem buf (u32 (base + u32 qs)) else some r6).map fun fp => (base, ⟨[r0, r1, r2, r3, r4, r5, fp, base], false, pc, pc - 1⟩) := by
        rw [hpos (by decide), if_neg (by simp), hbase]; rfl
      have hbu : u32r base := by rw [hbase]; exact u32_range _
      rw [show (90000 : Nat) = Nat.succ (Nat.succ (Nat.succ (Nat.succ (Nat.succ (Nat.succ (Nat.succ (Nat.succ (Nat.succ (Nat.succ (Nat.succ (Nat.succ (Nat.succ (Nat.succ (Nat.succ (Nat.succ (Nat.succ (Nat.succ (Nat.succ (Nat.succ (Nat.succ (Nat.succ (Nat.succ (Nat.succ (Nat.succ (Nat.succ (Nat.succ (Nat.succ (Nat.succ (Nat.succ (Nat.succ (Nat.succ (Nat.succ (N))))))))))))))))))))))))))))))))) from by rw [hNN]]
      conv => arg 4; cbv
      split
      · rename_i h3
        exfalso
        simp only [bIf_rec, pIf_rec, bNot_rec, hb, hi, hp, Int.ofNat_eq_natCast, condT] at h3
        simp at h3
      · rename_i h3
        simp only [h3]
        conv => arg 4; cbv
        simp only [e1]
        clear e1 hbase
        rw [hCC, ← runc.eq_def ⟨oi, ob, op, os, on, or_, om⟩ N]
        refine meanE_le (n := 80000) (m := N) (by omega) (hC base zo 2 hbu hU2 _ _ _ _ _ _ _ _ _ _ _ _ _ _ _ _ _ _ _ _ _ _ _ _ _ _ _ _ _ _ _ _ _ _ _ _ _ _ _ _ _ _ _ _ _ _ _ _ _ _ _ _ _ _ _ _ _ _ _ _ _ _ _ _ _ _ _ _ _ _ _ _ _ _ _ _ _ _ _ _ _ _ _ _ _ _ _ _ _ _ _ _ _ _ _ _ _ _ _ _ _ _ _ _ _ _ _ _ _ _ _ _ _ _ _ _ _ _ _ _ _ _ _ _ _ _ _ _ _ _ _ _ _ _ _ _ _ _ _ _ _ _ _ _ _ ?_)
        first | (simp [bIf_rec, pIf_rec, bNot_rec, hb, hi, hp, Int.ofNat_eq_natCast, oConds, strip, St.ev, hpr]; done) | (simp only [bIf_rec, pIf_rec, bNot_rec, hb, hi, hp, Int.ofNat_eq_natCast]; done) | (simp [bIf_rec, pIf_rec, bNot_rec, hb, hi, hp, Int.ofNat_eq_natCast, oConds, strip, St.ev, hpr]; (repeat' apply And.intro) <;> first | exact Int.NonNeg.mk _ | omega)
  · cases wa
    · have hU0 : U = none := by rw [hpos (by decide), if_pos (.inr ⟨rfl, by decide⟩)]
      conv => arg 4; cbv
      split
      · rename_i h3
        conv => arg 4; cbv
        refine roundG_out hω ?_ (fun h => by cases h) ?_
        · conv => arg 4; cbv
          refine meanE_fin hω _ (by (conv => lhs; cbv); all_goals rfl) ⟨rfl, rfl⟩ ?_ (fun e he => by cases he) ?_ ?_
          · rw [← hS hU0, happ]
            rw [hr, hn, hrows]; rfl
          · first | trivial | (simp [bIf_rec, pIf_rec, bNot_rec, hb, hi, hp, Int.ofNat_eq_natCast]; done)
          · simp
        · simp only [hp]
          repeat' apply And.intro
          all_goals first
            | trivial
            | exact hpr
            | omega
            | exact Int.NonNeg.mk _
            | (simp only [List.length_singleton]; omega)
            | (intro i row hrow
               cases i with
               | zero => simp at hrow; subst hrow; exact ⟨rfl, rfl⟩
               | succ i => simp at hrow)
            | (simp only [bIf_rec, pIf_rec, bNot_rec, hb, hi, hp, Int.ofNat_eq_natCast]; simp; done)
            | (simp [bIf_rec, pIf_rec, bNot_rec, hb, hi, hp, Int.ofNat_eq_natCast]; (repeat' apply And.intro) <;> exact Int.NonNeg.mk _)
      · rename_i h3
        exfalso
        simp only [bIf_rec, pIf_rec, bNot_rec, hb, hi, hp, Int.ofNat_eq_natCast, condT] at h3
        simp at h3
    · obtain ⟨base, hbase⟩ : ∃ b : Int, b = u32 (r3 + u32 qa) := ⟨_, rfl⟩
      have e1 : (oi fun _ => IntKind.u32.wrap (r3 + (oi fun _ => IntKind.u32.wrap qa))) = base := by rw [hi, hi, hbase]; rfl
      have hU2 : U = (wordOf p.mem buf (u32 (base - 4))).bind fun pc => (if qs < 0 then wordOf p.mem buf (u32 (base + u32 qs)) else some r6).map fun fp => (base, ⟨[r0, r1, r2, r3, r4, r5, fp, base], false, pc, pc - 1⟩) := by
        rw [hpos (by decide), if_neg (by simp), hbase]; rfl
      have hbu : u32r base := by rw [hbase]; exact u32_range _
      rw [show (90000 : Nat) = Nat.succ (Nat.succ (Nat.succ (Nat.succ (Nat.succ (Nat.succ (Nat.succ (Nat.succ (Nat.succ (Nat.succ (Nat.succ (Nat.succ (Nat.succ (Nat.succ (Nat.succ (Nat.succ (Nat.succ (Nat.succ (Nat.succ (Nat.succ (Nat.succ (Nat.succ (Nat.succ (Nat.succ (Nat.succ (Nat.succ (Nat.succ (Nat.succ (Nat.succ (Nat.succ (Nat.succ (Nat.succ (Nat.succ (N))))))))))))))))))))))))))))))))) from by rw [hNN]]
      conv => arg 4; cbv
      split
      · rename_i h3
        exfalso
        simp only [bIf_rec, pIf_rec, bNot_rec, hb, hi, hp, Int.ofNat_eq_natCast, condT] at h3
        simp at h3
      · rename_i h3
        simp only [h3]
        conv => arg 4; cbv
        simp only [e1]
        clear e1 hbase
        rw [hCC, ← runc.eq_def ⟨oi, ob, op, os, on, or_, om⟩ N]
        refine meanE_le (n := 80000) (m := N) (by omega) (hC base zo 3 hbu hU2 _ _ _ _ _ _ _ _ _ _ _ _ _ _ _ _ _ _ _ _ _ _ _ _ _ _ _ _ _ _ _ _ _ _ _ _ _ _ _ _ _ _ _ _ _ _ _ _ _ _ _ _ _ _ _ _ _ _ _ _ _ _ _ _ _ _ _ _ _ _ _ _ _ _ _ _ _ _ _ _ _ _ _ _ _ _ _ _ _ _ _ _ _ _ _ _ _ _ _ _ _ _ _ _ _ _ _ _ _ _ _ _ _ _ _ _ _ _ _ _ _ _ _ _ _ _ _ _ _ _ _ _ _ _ _ _ _ _ _ _ _ _ _ _ _ ?_)
        first | (simp [bIf_rec, pIf_rec, bNot_rec, hb, hi, hp, Int.ofNat_eq_natCast, oConds, strip, St.ev, hpr]; done) | (simp only [bIf_rec, pIf_rec, bNot_rec, hb, hi, hp, Int.ofNat_eq_natCast]; done) | (simp [bIf_rec, pIf_rec, bNot_rec, hb, hi, hp, Int.ofNat_eq_natCast, oConds, strip, St.ev, hpr]; (repeat' apply And.intro) <;> first | exact Int.NonNeg.mk _ | omega)
  · cases wa
    · have hU0 : U = none := by rw [hpos (by decide), if_pos (.inr ⟨rfl, by decide⟩)]
      conv => arg 4; cbv
      split
      · rename_i h3
        conv => arg 4; cbv
        refine roundG_out hω ?_ (fun h => by cases h) ?_
        · conv => arg 4; cbv
          refine meanE_fin hω _ (by (conv => lhs; cbv); all_goals rfl) ⟨rfl, rfl⟩ ?_ (fun e he => by cases he) ?_ ?_
          · rw [← hS hU0, happ]
            rw [hr, hn, hrows]; rfl
          · first | trivial | (simp [bIf_rec, pIf_rec, bNot_rec, hb, hi, hp, Int.ofNat_eq_natCast]; done)
          · simp
        · simp only [hp]
          repeat' apply And.intro
          all_goals first
            | trivial
            | exact hpr
            | omega
            | exact Int.NonNeg.mk _
            | (simp only [List.length_singleton]; omega)
            | (intro i row hrow
               cases i with
               | zero => simp at hrow; subst hrow; exact ⟨rfl, rfl⟩
               | succ i => simp at hrow)
            | (simp only [bIf_rec, pIf_rec, bNot_rec, hb, hi, hp, Int.ofNat_eq_natCast]; simp; done)
            | (simp [bIf_rec, pIf_rec, bNot_rec, hb, hi, hp, Int.ofNat_eq_natCast]; (repeat' apply And.intro) <;> exact Int.NonNeg.mk _)
      · rename_i h3
        exfalso
        simp only [bIf_rec, pIf_rec, bNot_rec, hb, hi, hp, Int.ofNat_eq_natCast, condT] at h3
        simp at h3
    · obtain ⟨base, hbase⟩ : ∃ b : Int, b = u32 (r4 + u32 qa) := ⟨_, rfl⟩
      have e1 : (oi fun _ => IntKind.u32.wrap (r4 + (oi fun _ => IntKind.u32.wrap qa))) = base := by rw [hi, hi, hbase]; rfl
      have hU2 : U = (wordOf p.mem buf (u32 (base - 4))).bind fun pc => (if qs < 0 then wordOf p.mem buf (u32 (base + u32 qs)) else some r6).map fun fp => (base, ⟨[r0, r1, r2, r3, r4, r5, fp, base], false, pc, pc - 1⟩) := by
        rw [hpos (by decide), if_neg (by simp), hbase]; rfl
      have hbu : u32r base := by rw [hbase]; exact u32_range _
      rw [show (90000 : Nat) = Nat.succ (Nat.succ (Nat.succ (Nat.succ (Nat.succ (Nat.succ (Nat.succ (Nat.succ (Nat.succ (Nat.succ (Nat.succ (Nat.succ (Nat.succ (Nat.succ (Nat.succ (Nat.succ (Nat.succ (Nat.succ (Nat.succ (Nat.succ (Nat.succ (Nat.succ (Nat.succ (Nat.succ (Nat.succ (Nat.succ (Nat.succ (Nat.succ (Nat.succ (Nat.succ (Nat.succ (Nat.succ (Nat.succ (N))))))))))))))))))))))))))))))))) from by rw [hNN]]
      conv => arg 4; cbv
      split
      · rename_i h3
        exfalso
        simp only [bIf_rec, pIf_rec, bNot_rec, hb, hi, hp, Int.ofNat_eq_natCast, condT] at h3
        simp at h3
      · rename_i h3
        simp only [h3]
        conv => arg 4; cbv
        simp only [e1]
        clear e1 hbase
        rw [hCC, ← runc.eq_def ⟨oi, ob, op, os, on, or_, om⟩ N]
        refine meanE_le (n := 80000) (m := N) (by omega) (hC base zo 4 hbu hU2 _ _ _ _ _ _ _ _ _ _ _ _ _ _ _ _ _ _ _ _ _ _ _ _ _ _ _ _ _ _ _ _ _ _ _ _ _ _ _ _ _ _ _ _ _ _ _ _ _ _ _ _ _ _ _ _ _ _ _ _ _ _ _ _ _ _ _ _ _ _ _ _ _ _ _ _ _ _ _ _ _ _ _ _ _ _ _ _ _ _ _ _ _ _ _ _ _ _ _ _ _ _ _ _ _ _ _ _ _ _ _ _ _ _ _ _ _ _ _ _ _ _ _ _ _ _ _ _ _ _ _ _ _ _ _ _ _ _ _ _ _ _ _ _ _ ?_)
        first | (simp [bIf_rec, pIf_rec, bNot_rec, hb, hi, hp, Int.ofNat_eq_natCast, oConds, strip, St.ev, hpr]; done) | (simp only [bIf_rec, pIf_rec, bNot_rec, hb, hi, hp, Int.ofNat_eq_natCast]; done) | (simp [bIf_rec, pIf_rec, bNot_rec, hb, hi, hp, Int.ofNat_eq_natCast, oConds, strip, St.ev, hpr]; (repeat' apply And.intro) <;> first | exact Int.NonNeg.mk _ | omega)
  · cases wa
    · have hU0 : U = none := by rw [hpos (by decide), if_pos (.inr ⟨rfl, by decide⟩)]
      conv => arg 4; cbv
      split
      · rename_i h3
        conv => arg 4; cbv
        refine roundG_out hω ?_ (fun h => by cases h) ?_
        · conv => arg 4; cbv
          refine meanE_fin hω _ (by (conv => lhs; cbv); all_goals rfl) ⟨rfl, rfl⟩ ?_ (fun e he => by cases he) ?_ ?_
          · rw [← hS hU0, happ]
            rw [hr, hn, hrows]; rfl
          · first | trivial | (simp [bIf_rec, pIf_rec, bNot_rec, hb, hi, hp, Int.ofNat_eq_natCast]; done)
          · simp
        · simp only [hp]
          repeat' apply And.intro
          all_goals first
            | trivial
            | exact hpr
            | omega
            | exact Int.NonNeg.mk _
            | (simp only [List.length_singleton]; omega)
            | (intro i row hrow
               cases i with
               | zero => simp at hrow; subst hrow; exact ⟨rfl, rfl⟩
               | succ i => simp at hrow)
            | (simp only [bIf_rec, pIf_rec, bNot_rec, hb, hi, hp, Int.ofNat_eq_natCast]; simp; done)
            | (simp [bIf_rec, pIf_rec, bNot_rec, hb, hi, hp, Int.ofNat_eq_natCast]; (repeat' apply And.intro) <;> exact Int.NonNeg.mk _)
      · rename_i h3
        exfalso
        simp only [bIf_rec, pIf_rec, bNot_rec, hb, hi, hp, Int.ofNat_eq_natCast, condT] at h3
        simp at h3
    · obtain ⟨base, hbase⟩ : ∃ b : Int, b = u32 (r5 + u32 qa) := ⟨_, rfl⟩
      have e1 : (oi fun _ => IntKind.u32.wrap (r5 + (oi fun _ => IntKind.u32.wrap qa))) = base := by rw [hi, hi, hbase]; rfl
      have hU2 : U = (wordOf p.mem buf (u32 (base - 4))).bind fun pc => (if qs < 0 then wordOf p.mem buf (u32 (base + u32 qs)) else some r6).map fun fp => (base, ⟨[r0, r1, r2, r3, r4, r5, fp, base], false, pc, pc - 1⟩) := by
        rw [hpos (by decide), if_neg (by simp), hbase]; rfl
      have hbu : u32r base := by rw [hbase]; exact u32_range _
      rw [show (90000 : Nat) = Nat.succ (Nat.succ (Nat.succ (Nat.succ (Nat.succ (Nat.succ (Nat.succ (Nat.succ (Nat.succ (Nat.succ (Nat.succ (Nat.succ (Nat.succ (Nat.succ (Nat.succ (Nat.succ (Nat.succ (Nat.succ (Nat.succ (Nat.succ (Nat.succ (Nat.succ (Nat.succ (Nat.succ (Nat.succ (Nat.succ (Nat.succ (Nat.succ (Nat.succ (Nat.succ (Nat.succ (Nat.succ (Nat.succ (N))))))))))))))))))))))))))))))))) from by rw [hNN]]
      conv => arg 4; cbv
      split
      · rename_i h3
        exfalso
        simp only [bIf_rec, pIf_rec, bNot_rec, hb, hi, hp, Int.ofNat_eq_natCast, condT] at h3
        simp at h3
      · rename_i h3
        simp only [h3]
        conv => arg 4; cbv
        simp only [e1]
        clear e1 hbase
        rw [hCC, ← runc.eq_def ⟨oi, ob, op, os, on, or_, om⟩ N]
        refine meanE_le (n := 80000) (m := N) (by omega) (hC base zo 5 hbu hU2 _ _ _ _ _ _ _ _ _ _ _ _ _ _ _ _ _ _ _ _ _ _ _ _ _ _ _ _ _ _ _ _ _ _ _ _ _ _ _ _ _ _ _ _ _ _ _ _ _ _ _ _ _ _ _ _ _ _ _ _ _ _ _ _ _ _ _ _ _ _ _ _ _ _ _ _ _ _ _ _ _ _ _ _ _ _ _ _ _ _ _ _ _ _ _ _ _ _ _ _ _ _ _ _ _ _ _ _ _ _ _ _ _ _ _ _ _ _ _ _ _ _ _ _ _ _ _ _ _ _ _ _ _ _ _ _ _ _ _ _ _ _ _ _ _ ?_)
        first | (simp [bIf_rec, pIf_rec, bNot_rec, hb, hi, hp, Int.ofNat_eq_natCast, oConds, strip, St.ev, hpr]; done) | (simp only [bIf_rec, pIf_rec, bNot_rec, hb, hi, hp, Int.ofNat_eq_natCast]; done) | (simp [bIf_rec, pIf_rec, bNot_rec, hb, hi, hp, Int.ofNat_eq_natCast, oConds, strip, St.ev, hpr]; (repeat' apply And.intro) <;> first | exact Int.NonNeg.mk _ | omega)
  · cases wa
    · obtain ⟨base, hbase⟩ : ∃ b : Int, b = u32 (r6 + u32 qa) := ⟨_, rfl⟩
      have e1 : (oi fun _ => IntKind.u32.wrap (r6 + (oi fun _ => IntKind.u32.wrap qa))) = base := by rw [hi, hi, hbase]; rfl
      have hU2 : U = (wordOf p.mem buf (u32 (base - 4))).bind fun pc => (if qs < 0 then wordOf p.mem buf (u32 (base + u32 qs)) else some r6).map fun fp => (base, ⟨[r0, r1, r2, r3, r4, r5, fp, base], false, pc, pc - 1⟩) := by
        rw [hpos (by decide), if_neg (by simp), hbase]; rfl
      have hbu : u32r base := by rw [hbase]; exact u32_range _
      rw [show (90000 : Nat) = Nat.succ (Nat.succ (Nat.succ (Nat.succ (Nat.succ (Nat.succ (Nat.succ (Nat.succ (Nat.succ (Nat.succ (Nat.succ (Nat.succ (Nat.succ (Nat.succ (Nat.succ (Nat.succ (Nat.succ (Nat.succ (Nat.succ (Nat.succ (Nat.succ (Nat.succ (Nat.succ (Nat.succ (Nat.succ (Nat.succ (Nat.succ (Nat.succ (Nat.succ (Nat.succ (Nat.succ (Nat.succ (Nat.succ (N))))))))))))))))))))))))))))))))) from by rw [hNN]]
      conv => arg 4; cbv
      split
      · rename_i h3
        exfalso
        simp only [bIf_rec, pIf_rec, bNot_rec, hb, hi, hp, Int.ofNat_eq_natCast, condT] at h3
        simp at h3
      · rename_i h3
        simp only [h3]
        conv => arg 4; cbv
        simp only [e1]
        clear e1 hbase
        rw [hCC, ← runc.eq_def ⟨oi, ob, op, os, on, or_, om⟩ N]
        refine meanE_le (n := 80000) (m := N) (by omega) (hC base zo 6 hbu hU2 _ _ _ _ _ _ _ _ _ _ _ _ _ _ _ _ _ _ _ _ _ _ _ _ _ _ _ _ _ _ _ _ _ _ _ _ _ _ _ _ _ _ _ _ _ _ _ _ _ _ _ _ _ _ _ _ _ _ _ _ _ _ _ _ _ _ _ _ _ _ _ _ _ _ _ _ _ _ _ _ _ _ _ _ _ _ _ _ _ _ _ _ _ _ _ _ _ _ _ _ _ _ _ _ _ _ _ _ _ _ _ _ _ _ _ _ _ _ _ _ _ _ _ _ _ _ _ _ _ _ _ _ _ _ _ _ _ _ _ _ _ _ _ _ _ ?_)
        first | (simp [bIf_rec, pIf_rec, bNot_rec, hb, hi, hp, Int.ofNat_eq_natCast, oConds, strip, St.ev, hpr]; done) | (simp only [bIf_rec, pIf_rec, bNot_rec, hb, hi, hp, Int.ofNat_eq_natCast]; done) | (simp [bIf_rec, pIf_rec, bNot_rec, hb, hi, hp, Int.ofNat_eq_natCast, oConds, strip, St.ev, hpr]; (repeat' apply And.intro) <;> first | exact Int.NonNeg.mk _ | omega)
    · obtain ⟨base, hbase⟩ : ∃ b : Int, b = u32 (r6 + u32 qa) := ⟨_, rfl⟩
      have e1 : (oi fun _ => IntKind.u32.wrap (r6 + (oi fun _ => IntKind.u32.wrap qa))) = base := by rw [hi, hi, hbase]; rfl
      have hU2 : U = (wordOf p.mem buf (u32 (base - 4))).bind fun pc => (if qs < 0 then wordOf p.mem buf (u32 (base + u32 qs)) else some r6).map fun fp => (base, ⟨[r0, r1, r2, r3, r4, r5, fp, base], false, pc, pc - 1⟩) := by
        rw [hpos (by decide), if_neg (by simp), hbase]; rfl
      have hbu : u32r base := by rw [hbase]; exact u32_range _
      rw [show (90000 : Nat) = Nat.succ (Nat.succ (Nat.succ (Nat.succ (Nat.succ (Nat.succ (Nat.succ (Nat.succ (Nat.succ (Nat.succ (Nat.succ (Nat.succ (Nat.succ (Nat.succ (Nat.succ (Nat.succ (Nat.succ (Nat.succ (Nat.succ (Nat.succ (Nat.succ (Nat.succ (Nat.succ (Nat.succ (Nat.succ (Nat.succ (Nat.succ (Nat.succ (Nat.succ (Nat.succ (Nat.succ (Nat.succ (Nat.succ (N))))))))))))))))))))))))))))))))) from by rw [hNN]]
      conv => arg 4; cbv
      split
      · rename_i h3
        exfalso
        simp only [bIf_rec, pIf_rec, bNot_rec, hb, hi, hp, Int.ofNat_eq_natCast, condT] at h3
        simp at h3
      · rename_i h3
        simp only [h3]
        conv => arg 4; cbv
        simp only [e1]
        clear e1 hbase
        rw [hCC, ← runc.eq_def ⟨oi, ob, op, os, on, or_, om⟩ N]
        refine meanE_le (n := 80000) (m := N) (by omega) (hC base zo 6 hbu hU2 _ _ _ _ _ _ _ _ _ _ _ _ _ _ _ _ _ _ _ _ _ _ _ _ _ _ _ _ _ _ _ _ _ _ _ _ _ _ _ _ _ _ _ _ _ _ _ _ _ _ _ _ _ _ _ _ _ _ _ _ _ _ _ _ _ _ _ _ _ _ _ _ _ _ _ _ _ _ _ _ _ _ _ _ _ _ _ _ _ _ _ _ _ _ _ _ _ _ _ _ _ _ _ _ _ _ _ _ _ _ _ _ _ _ _ _ _ _ _ _ _ _ _ _ _ _ _ _ _ _ _ _ _ _ _ _ _ _ _ _ _ _ _ _ _ ?_)
        first | (simp [bIf_rec, pIf_rec, bNot_rec, hb, hi, hp, Int.ofNat_eq_natCast, oConds, strip, St.ev, hpr]; done) | (simp only [bIf_rec, pIf_rec, bNot_rec, hb, hi, hp, Int.ofNat_eq_natCast]; done) | (simp [bIf_rec, pIf_rec, bNot_rec, hb, hi, hp, Int.ofNat_eq_natCast, oConds, strip, St.ev, hpr]; (repeat' apply And.intro) <;> first | exact Int.NonNeg.mk _ | omega)
  · cases wa
    · obtain ⟨base, hbase⟩ : ∃ b : Int, b = u32 (r7 + u32 qa) := ⟨_, rfl⟩
      have e1 : (oi fun _ => IntKind.u32.wrap (r7 + (oi fun _ => IntKind.u32.wrap qa))) = base := by rw [hi, hi, hbase]; rfl
      have hU2 : U = (wordOf p.mem buf (u32 (base - 4))).bind fun pc => (if qs < 0 then wordOf p.mem buf (u32 (base + u32 qs)) else some r6).map fun fp => (base, ⟨[r0, r1, r2, r3, r4, r5, fp, base], false, pc, pc - 1⟩) := by
        rw [hpos (by decide), if_neg (by simp), hbase]; rfl
      have hbu : u32r base := by rw [hbase]; exact u32_range _
      rw [show (90000 : Nat) = Nat.succ (Nat.succ (Nat.succ (Nat.succ (Nat.succ (Nat.succ (Nat.succ (Nat.succ (Nat.succ (Nat.succ (Nat.succ (Nat.succ (Nat.succ (Nat.succ (Nat.succ (Nat.succ (Nat.succ (Nat.succ (Nat.succ (Nat.succ (Nat.succ (Nat.succ (Nat.succ (Nat.succ (Nat.succ (Nat.succ (Nat.succ (Nat.succ (Nat.succ (Nat.succ (Nat.succ (Nat.succ (Nat.succ (N))))))))))))))))))))))))))))))))) from by rw [hNN]]
      conv => arg 4; cbv
      split
      · rename_i h3
        exfalso
        simp only [bIf_rec, pIf_rec, bNot_rec, hb, hi, hp, Int.ofNat_eq_natCast, condT] at h3
        simp at h3
      · rename_i h3
        simp only [h3]
        conv => arg 4; cbv
        simp only [e1]
        clear e1 hbase
        rw [hCC, ← runc.eq_def ⟨oi, ob, op, os, on, or_, om⟩ N]
        refine meanE_le (n := 80000) (m := N) (by omega) (hC base zo 7 hbu hU2 _ _ _ _ _ _ _ _ _ _ _ _ _ _ _ _ _ _ _ _ _ _ _ _ _ _ _ _ _ _ _ _ _ _ _ _ _ _ _ _ _ _ _ _ _ _ _ _ _ _ _ _ _ _ _ _ _ _ _ _ _ _ _ _ _ _ _ _ _ _ _ _ _ _ _ _ _ _ _ _ _ _ _ _ _ _ _ _ _ _ _ _ _ _ _ _ _ _ _ _ _ _ _ _ _ _ _ _ _ _ _ _ _ _ _ _ _ _ _ _ _ _ _ _ _ _ _ _ _ _ _ _ _ _ _ _ _ _ _ _ _ _ _ _ _ ?_)
        first | (simp [bIf_rec, pIf_rec, bNot_rec, hb, hi, hp, Int.ofNat_eq_natCast, oConds, strip, St.ev, hpr]; done) | (simp only [bIf_rec, pIf_rec, bNot_rec, hb, hi, hp, Int.ofNat_eq_natCast]; done) | (simp [bIf_rec, pIf_rec, bNot_rec, hb, hi, hp, Int.ofNat_eq_natCast, oConds, strip, St.ev, hpr]; (repeat' apply And.intro) <;> first | exact Int.NonNeg.mk _ | omega)
    · obtain ⟨base, hbase⟩ : ∃ b : Int, b = u32 (r7 + u32 qa) := ⟨_, rfl⟩
      have e1 : (oi fun _ => IntKind.u32.wrap (r7 + (oi fun _ => IntKind.u32.wrap qa))) = base := by rw [hi, hi, hbase]; rfl
      have hU2 : U = (wordOf p.mem buf (u32 (base - 4))).bind fun pc => (if qs < 0 then wordOf p.mem buf (u32 (base + u32 qs)) else some r6).map fun fp => (base, ⟨[r0, r1, r2, r3, r4, r5, fp, base], false, pc, pc - 1⟩) := by
        rw [hpos (by decide), if_neg (by simp), hbase]; rfl
      have hbu : u32r base := by rw [hbase]; exact u32_range _
      rw [show (90000 : Nat) = Nat.succ (Nat.succ (Nat.succ (Nat.succ (Nat.succ (Nat.succ (Nat.succ (Nat.succ (Nat.succ (Nat.succ (Nat.succ (Nat.succ (Nat.succ (Nat.succ (Nat.succ (Nat.succ (Nat.succ (Nat.succ (Nat.succ (Nat.succ (Nat.succ (Nat.succ (Nat.succ (Nat.succ (Nat.succ (Nat.succ (Nat.succ (Nat.succ (Nat.succ (Nat.succ (Nat.succ (Nat.succ (Nat.succ (N))))))))))))))))))))))))))))))))) from by rw [hNN]]
      conv => arg 4; cbv
      split
      · rename_i h3
        exfalso
        simp only [bIf_rec, pIf_rec, bNot_rec, hb, hi, hp, Int.ofNat_eq_natCast, condT] at h3
        simp at h3
      · rename_i h3
        simp only [h3]
        conv => arg 4; cbv
        simp only [e1]
        clear e1 hbase
        rw [hCC, ← runc.eq_def ⟨oi, ob, op, os, on, or_, om⟩ N]
        refine meanE_le (n := 80000) (m := N) (by omega) (hC base zo 7 hbu hU2 _ _ _ _ _ _ _ _ _ _ _ _ _ _ _ _ _ _ _ _ _ _ _ _ _ _ _ _ _ _ _ _ _ _ _ _ _ _ _ _ _ _ _ _ _ _ _ _ _ _ _ _ _ _ _ _ _ _ _ _ _ _ _ _ _ _ _ _ _ _ _ _ _ _ _ _ _ _ _ _ _ _ _ _ _ _ _ _ _ _ _ _ _ _ _ _ _ _ _ _ _ _ _ _ _ _ _ _ _ _ _ _ _ _ _ _ _ _ _ _ _ _ _ _ _ _ _ _ _ _ _ _ _ _ _ _ _ _ _ _ _ _ _ _ _ ?_)
        first | (simp [bIf_rec, pIf_rec, bNot_rec, hb, hi, hp, Int.ofNat_eq_natCast, oConds, strip, St.ev, hpr]; done) | (simp only [bIf_rec, pIf_rec, bNot_rec, hb, hi, hp, Int.ofNat_eq_natCast]; done) | (simp [bIf_rec, pIf_rec, bNot_rec, hb, hi, hp, Int.ofNat_eq_natCast, oConds, strip, St.ev, hpr]; (repeat' apply And.intro) <;> first | exact Int.NonNeg.mk _ | omega)

end Go.Den.Z
