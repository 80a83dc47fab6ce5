/- Contracts of the reference functions, third part (after the print). -/
import Derived.Test.YthnndjlccepebaaGreatDoorP1
import Derived.Test.YthnndjlccepebaaGreatDoorP2
set_option linter.unusedVariables false
set_option linter.unusedSimpArgs false
namespace Go.Proofs.YthnndjlccepebaaGreatDoor.PHeavy
open Go.RowKit Go.Proofs.YthnndjlccepebaaGreatDoorW.PrintWords Go.Proofs.YthnndjlccepebaaGreatDoorW.PrintLast

mutual
def r04_Guess.j0 : Nat → Int → List Int → Int → Int → Int → Bool → Option (Int)
 | 0, _, _, _, _, _, _ => none
 | k + 1, x0, x1, x2, x9, x10, x29 => if x29 = true then (some 0) else (if x9 = 0 then ((r04_at.f x1 x2 0 (wrap64 (x10 - 1))).bind fun t204 => (some t204)) else ((r04_at.f x1 x2 (wrap64 (x9 - 1)) x10).bind fun t205 => (if x0 = 1 then (r04_Guess.j1 k x1 x2 x9 x10 t205 true) else (r04_Guess.j1 k x1 x2 x9 x10 t205 (x10 == 0)))))
def r04_Guess.j1 : Nat → List Int → Int → Int → Int → Int → Bool → Option (Int)
 | 0, _, _, _, _, _, _ => none
 | k + 1, x1, x2, x9, x10, x11, x48 => if x48 = true then (some x11) else ((r04_at.f x1 x2 x9 (wrap64 (x10 - 1))).bind fun t206 => ((r04_at.f x1 x2 (wrap64 (x9 - 1)) (wrap64 (x10 - 1))).bind fun t207 => (if (wrap64 ((wrap64 (x11 + t206)) - t207)) < x11 then (r04_Guess.j2 k x11 t206 (wrap64 ((wrap64 (x11 + t206)) - t207)) (decide ((wrap64 ((wrap64 (x11 + t206)) - t207)) < t206))) else (r04_Guess.j2 k x11 t206 (wrap64 ((wrap64 (x11 + t206)) - t207)) false))))
def r04_Guess.j2 : Nat → Int → Int → Int → Bool → Option (Int)
 | 0, _, _, _, _ => none
 | k + 1, x11, x12, x13, x74 => if x74 = true then (if x11 < x12 then (some x11) else (some x12)) else (if x13 > x11 then (r04_Guess.j3 k x11 x12 x13 (decide (x13 > x12))) else (r04_Guess.j3 k x11 x12 x13 false))
def r04_Guess.j3 : Nat → Int → Int → Int → Bool → Option (Int)
 | 0, _, _, _, _ => none
 | k + 1, x11, x12, x13, x87 => if x87 = true then (if x11 > x12 then (some x11) else (some x12)) else (some x13)
end
def r04_Guess.f (k : Nat) (a0 : Int) (l1 : List Int) (a2 : Int) (a3 : Int) : Option (Int) := if a2 = 0 then (none) else (if a0 = 0 then (r04_Guess.j0 k a0 l1 a2 (Int.tmod a3 a2) (wrap64 (Int.tdiv a3 a2)) true) else (if (Int.tmod a3 a2) = 0 then (r04_Guess.j0 k a0 l1 a2 (Int.tmod a3 a2) (wrap64 (Int.tdiv a3 a2)) ((wrap64 (Int.tdiv a3 a2)) == 0)) else (r04_Guess.j0 k a0 l1 a2 (Int.tmod a3 a2) (wrap64 (Int.tdiv a3 a2)) false)))
set_option maxHeartbeats 8000000 in
set_option maxRecDepth 100000 in
theorem r04_Guess.calls (k : Nat) (a0 : Int) (A1 : Option Addr) (c1 : Nat) (l1 : List Int) (a2 : Int) (a3 : Int) (r : Int) (w : World) (hr1 : Kd.C (Kd.int .i64) w A1 l1.length l1) (hc1 : l1.length ≤ c1) (h : r04_Guess.f k a0 l1 a2 a3 = some r) :
  Calls Tryz.prog 107 #[.int .i64 a0, .slice A1 l1.length c1, .int .i64 a2, .int .i64 a3] w fun e w' => e = .returned (.int .i64 r) ∧ Drawn0 w w' := by
 have HR1 := Ad.mk hr1
 have HC1 := Ad.mk hc1
 clear hr1 hc1
 have H : (if a2 = 0 then (none) else (if a0 = 0 then (r04_Guess.j0 k a0 l1 a2 (Int.tmod a3 a2) (wrap64 (Int.tdiv a3 a2)) true) else (if (Int.tmod a3 a2) = 0 then (r04_Guess.j0 k a0 l1 a2 (Int.tmod a3 a2) (wrap64 (Int.tdiv a3 a2)) ((wrap64 (Int.tdiv a3 a2)) == 0)) else (r04_Guess.j0 k a0 l1 a2 (Int.tmod a3 a2) (wrap64 (Int.tdiv a3 a2)) false)))) = some r := h
 clear h
 by_cases c5 : a2 = 0
 ·rw [if_pos c5] at H
  exact absurd H (by simp)
 ·rw [if_neg c5] at H
  have c5b0 : (a2 == 0) = false := beq_eq_false_iff_ne.mpr c5
  have c5b1 : (a2 != 0) = true := bne_iff_ne.mpr c5
  have HC6 := Ad.mk H
  clear H
  go_enter Tryz.func107, Tryz.ntmps107
  go_upto_region 2 with (fail)
  repeat (go_quiet (fail); go_upto_region 2 with (fail))
  go_cut [29] (fun v29 wc => ∃ (kq : Nat) (x29_5 : Bool), v29 = .bool x29_5 ∧ Ad (r04_Guess.j0 kq a0 l1 a2 (Int.tmod a3 a2) (wrap64 (Int.tdiv a3 a2)) x29_5 = some r) ∧ Ad (kq ≤ k) ∧ Drawn0 w wc)
  case first =>
   have H := HC6.out
   clear HC6
   by_cases c7 : a0 = 0
   ·rw [if_pos c7] at H
    have c7b0 : (a0 == 0) = true := beq_iff_eq.mpr c7
    have c7b1 : (a0 != 0) = false := bne_eq_false_iff_eq.mpr c7
    clear c7
    (first | rw [c7b0] | (simp only [i64_w]; rw [c7b0]) | skip)
    have H' := Ad.mk H
    clear H
    go_wp2
    repeat (go_quiet (fail); try go_wp2)
    go_meet
    case rel => exact ⟨_, (true), (by first | rfl | (simp; done) | (simp [*]; done)), H', ⟨by first | omega | exact Nat.le_refl _⟩, by repeat (first | exact Drawn0.refl _ | apply Drawn0.step)⟩
   ·rw [if_neg c7] at H
    have c7b0 : (a0 == 0) = false := beq_eq_false_iff_ne.mpr c7
    have c7b1 : (a0 != 0) = true := bne_iff_ne.mpr c7
    (first | rw [c7b0] | (simp only [i64_w]; rw [c7b0]) | skip)
    by_cases c8 : (Int.tmod a3 a2) = 0
    ·rw [if_pos c8] at H
     have c8b0 : ((Int.tmod a3 a2) == 0) = true := beq_iff_eq.mpr c8
     have c8b1 : ((Int.tmod a3 a2) != 0) = false := bne_eq_false_iff_eq.mpr c8
     clear c8
     have H' := Ad.mk H
     clear H
     go_wp2
     repeat (go_quiet (fail); try go_wp2)
     go_meet
     case rel => exact ⟨_, (((wrap64 (Int.tdiv a3 a2)) == 0)), (by first | rfl | (simp; done) | (simp [*]; done)), H', ⟨by first | omega | exact Nat.le_refl _⟩, by repeat (first | exact Drawn0.refl _ | apply Drawn0.step)⟩
    ·rw [if_neg c8] at H
     have c8b0 : ((Int.tmod a3 a2) == 0) = false := beq_eq_false_iff_ne.mpr c8
     have c8b1 : ((Int.tmod a3 a2) != 0) = true := bne_iff_ne.mpr c8
     have H' := Ad.mk H
     clear H
     go_wp2
     repeat (go_quiet (fail); try go_wp2)
     go_meet
     case rel => exact ⟨_, (false), (by first | rfl | (simp; done) | (simp [*]; done)), H', ⟨by first | omega | exact Nat.le_refl _⟩, by repeat (first | exact Drawn0.refl _ | apply Drawn0.step)⟩
  case rest =>
   clear HC6
   try clear c1
   try clear p2
   try clear c5
   try clear c5b0
   try clear c5b1
   try clear p6
   try clear c7
   try clear c7b0
   try clear c7b1
   try clear c8
   try clear c8b0
   try clear c8b1
   obtain ⟨kq, x29_5, rfl, HA, HJ5, ⟨mc5, rfl⟩⟩ := hcut
   cases kq with
   | zero => exact absurd HA.out (by simp [r04_Guess.j0])
   | succ kj5 =>
    have H := HA.out
    clear HA
    simp only [r04_Guess.j0] at H
    by_cases c9 : x29_5 = true
    ·subst c9
     have H1 : (some 0) = some r := by rw [if_pos rfl] at H; exact H
     clear H
     have H := H1
     clear H1
     obtain rfl := Option.some.inj H
     go_wp2
     repeat (go_quiet (fail); try go_wp2)
     go_ret
     exact ⟨by first | rfl | (simp; done) | (simp [*]; done), by repeat (first | exact Drawn0.refl _ | apply Drawn0.step)⟩
    ·replace c9 := Bool.eq_false_iff.mpr c9
     subst c9
     have H1 : (if (Int.tmod a3 a2) = 0 then ((r04_at.f l1 a2 0 (wrap64 ((wrap64 (Int.tdiv a3 a2)) - 1))).bind fun t204 => (some t204)) else ((r04_at.f l1 a2 (wrap64 ((Int.tmod a3 a2) - 1)) (wrap64 (Int.tdiv a3 a2))).bind fun t205 => (if a0 = 1 then (r04_Guess.j1 kj5 l1 a2 (Int.tmod a3 a2) (wrap64 (Int.tdiv a3 a2)) t205 true) else (r04_Guess.j1 kj5 l1 a2 (Int.tmod a3 a2) (wrap64 (Int.tdiv a3 a2)) t205 ((wrap64 (Int.tdiv a3 a2)) == 0))))) = some r := by rw [if_neg (show ¬ (false = true) by decide)] at H; exact H
     clear H
     have H := H1
     clear H1
     by_cases c10 : (Int.tmod a3 a2) = 0
     ·rw [if_pos c10] at H
      have c10b0 : ((Int.tmod a3 a2) == 0) = true := beq_iff_eq.mpr c10
      have c10b1 : ((Int.tmod a3 a2) != 0) = false := bne_eq_false_iff_eq.mpr c10
      clear c10
      replace H := Option.bind_eq_some_iff.mp H
      obtain ⟨t204, A110, H⟩ := H
      replace H : (some t204) = some r := H
      have A11 := Ad.mk A110
      clear A110
      obtain rfl := Option.some.inj H
      go_wp2_with (first | (go_at_call 168; (with_reducible refine (r04_at.calls _ _ l1 a2 0 (wrap64 ((wrap64 (Int.tdiv a3 a2)) - 1)) t204 _ ?side1 ?side2 A11.out).mono ?_); (case side1 => repeat (first | exact HR1.out | (with_reducible refine Kd.C_alloc ?_ _) | (with_reducible refine Kd.C_drewN ?_ _) | (with_reducible refine Kd.C_drew ?_))); (case side2 => exact HC1.out); rintro e w' ⟨rfl, ⟨nd, rfl⟩⟩; (try first | exact ⟨rfl, _, World.drewN_drewN _ _ _⟩ | exact ⟨rfl, _, Eq.trans (World.drewN_drewN _ _ _) (congrArg (World.drewN _) (Nat.add_assoc _ _ _))⟩)))
      repeat (go_quiet (first | (go_at_call 168; (with_reducible refine (r04_at.calls _ _ l1 a2 0 (wrap64 ((wrap64 (Int.tdiv a3 a2)) - 1)) t204 _ ?side1 ?side2 A11.out).mono ?_); (case side1 => repeat (first | exact HR1.out | (with_reducible refine Kd.C_alloc ?_ _) | (with_reducible refine Kd.C_drewN ?_ _) | (with_reducible refine Kd.C_drew ?_))); (case side2 => exact HC1.out); rintro e w' ⟨rfl, ⟨nd, rfl⟩⟩; (try first | exact ⟨rfl, _, World.drewN_drewN _ _ _⟩ | exact ⟨rfl, _, Eq.trans (World.drewN_drewN _ _ _) (congrArg (World.drewN _) (Nat.add_assoc _ _ _))⟩))); try go_wp2_with (first | (go_at_call 168; (with_reducible refine (r04_at.calls _ _ l1 a2 0 (wrap64 ((wrap64 (Int.tdiv a3 a2)) - 1)) t204 _ ?side1 ?side2 A11.out).mono ?_); (case side1 => repeat (first | exact HR1.out | (with_reducible refine Kd.C_alloc ?_ _) | (with_reducible refine Kd.C_drewN ?_ _) | (with_reducible refine Kd.C_drew ?_))); (case side2 => exact HC1.out); rintro e w' ⟨rfl, ⟨nd, rfl⟩⟩; (try first | exact ⟨rfl, _, World.drewN_drewN _ _ _⟩ | exact ⟨rfl, _, Eq.trans (World.drewN_drewN _ _ _) (congrArg (World.drewN _) (Nat.add_assoc _ _ _))⟩))))
      go_ret
      exact ⟨by first | rfl | (simp; done) | (simp [*]; done), by repeat (first | exact Drawn0.refl _ | apply Drawn0.step)⟩
     ·rw [if_neg c10] at H
      have c10b0 : ((Int.tmod a3 a2) == 0) = false := beq_eq_false_iff_ne.mpr c10
      have c10b1 : ((Int.tmod a3 a2) != 0) = true := bne_iff_ne.mpr c10
      replace H := Option.bind_eq_some_iff.mp H
      obtain ⟨t205, A120, H⟩ := H
      replace H : (if a0 = 1 then (r04_Guess.j1 kj5 l1 a2 (Int.tmod a3 a2) (wrap64 (Int.tdiv a3 a2)) t205 true) else (r04_Guess.j1 kj5 l1 a2 (Int.tmod a3 a2) (wrap64 (Int.tdiv a3 a2)) t205 ((wrap64 (Int.tdiv a3 a2)) == 0))) = some r := H
      have A12 := Ad.mk A120
      clear A120
      have HC13 := Ad.mk H
      clear H
      go_upto_region 7 with (first | (go_at_call 168; (with_reducible refine (r04_at.calls _ _ l1 a2 (wrap64 ((Int.tmod a3 a2) - 1)) (wrap64 (Int.tdiv a3 a2)) t205 _ ?side1 ?side2 A12.out).mono ?_); (case side1 => repeat (first | exact HR1.out | (with_reducible refine Kd.C_alloc ?_ _) | (with_reducible refine Kd.C_drewN ?_ _) | (with_reducible refine Kd.C_drew ?_))); (case side2 => exact HC1.out); rintro e w' ⟨rfl, ⟨nd, rfl⟩⟩; (try first | exact ⟨rfl, _, World.drewN_drewN _ _ _⟩ | exact ⟨rfl, _, Eq.trans (World.drewN_drewN _ _ _) (congrArg (World.drewN _) (Nat.add_assoc _ _ _))⟩)))
      repeat (go_quiet (first | (go_at_call 168; (with_reducible refine (r04_at.calls _ _ l1 a2 (wrap64 ((Int.tmod a3 a2) - 1)) (wrap64 (Int.tdiv a3 a2)) t205 _ ?side1 ?side2 A12.out).mono ?_); (case side1 => repeat (first | exact HR1.out | (with_reducible refine Kd.C_alloc ?_ _) | (with_reducible refine Kd.C_drewN ?_ _) | (with_reducible refine Kd.C_drew ?_))); (case side2 => exact HC1.out); rintro e w' ⟨rfl, ⟨nd, rfl⟩⟩; (try first | exact ⟨rfl, _, World.drewN_drewN _ _ _⟩ | exact ⟨rfl, _, Eq.trans (World.drewN_drewN _ _ _) (congrArg (World.drewN _) (Nat.add_assoc _ _ _))⟩))); go_upto_region 7 with (first | (go_at_call 168; (with_reducible refine (r04_at.calls _ _ l1 a2 (wrap64 ((Int.tmod a3 a2) - 1)) (wrap64 (Int.tdiv a3 a2)) t205 _ ?side1 ?side2 A12.out).mono ?_); (case side1 => repeat (first | exact HR1.out | (with_reducible refine Kd.C_alloc ?_ _) | (with_reducible refine Kd.C_drewN ?_ _) | (with_reducible refine Kd.C_drew ?_))); (case side2 => exact HC1.out); rintro e w' ⟨rfl, ⟨nd, rfl⟩⟩; (try first | exact ⟨rfl, _, World.drewN_drewN _ _ _⟩ | exact ⟨rfl, _, Eq.trans (World.drewN_drewN _ _ _) (congrArg (World.drewN _) (Nat.add_assoc _ _ _))⟩))))
      (try simp only [Act.put, List.setIfInBounds_toArray, List.set_cons_zero, List.set_cons_succ])
      go_cut [48] (fun v48 wc => ∃ (kq : Nat) (x48_12 : Bool), v48 = .bool x48_12 ∧ Ad (r04_Guess.j1 kq l1 a2 (Int.tmod a3 a2) (wrap64 (Int.tdiv a3 a2)) t205 x48_12 = some r) ∧ Ad (kq ≤ kj5) ∧ Drawn0 w wc)
      case first =>
       have H := HC13.out
       clear HC13
       by_cases c14 : a0 = 1
       ·rw [if_pos c14] at H
        have c14b0 : (a0 == 1) = true := beq_iff_eq.mpr c14
        have c14b1 : (a0 != 1) = false := bne_eq_false_iff_eq.mpr c14
        clear c14
        (first | rw [c14b0] | (simp only [i64_w]; rw [c14b0]) | skip)
        have H' := Ad.mk H
        clear H
        go_wp2
        repeat (go_quiet (fail); try go_wp2)
        go_meet
        case rel => exact ⟨_, (true), (by first | rfl | (simp; done) | (simp [*]; done)), H', ⟨by have := HJ5.out; first | omega | exact Nat.le_refl _⟩, by repeat (first | exact Drawn0.refl _ | apply Drawn0.step)⟩
       ·rw [if_neg c14] at H
        have c14b0 : (a0 == 1) = false := beq_eq_false_iff_ne.mpr c14
        have c14b1 : (a0 != 1) = true := bne_iff_ne.mpr c14
        (first | rw [c14b0] | (simp only [i64_w]; rw [c14b0]) | skip)
        have H' := Ad.mk H
        clear H
        go_wp2
        repeat (go_quiet (fail); try go_wp2)
        go_meet
        case rel => exact ⟨_, (((wrap64 (Int.tdiv a3 a2)) == 0)), (by first | rfl | (simp; done) | (simp [*]; done)), H', ⟨by have := HJ5.out; first | omega | exact Nat.le_refl _⟩, by repeat (first | exact Drawn0.refl _ | apply Drawn0.step)⟩
      case rest =>
       clear HC13
       try clear c1
       try clear p2
       try clear c5
       try clear c5b0
       try clear c5b1
       try clear p6
       try clear c7
       try clear c7b0
       try clear c7b1
       try clear c8
       try clear c8b0
       try clear c8b1
       try clear c9
       try clear c10
       try clear c10b0
       try clear c10b1
       try clear c14
       try clear c14b0
       try clear c14b1
       try clear p2
       try clear p6
       obtain ⟨kq, x48_12, rfl, HA, HJ12, ⟨mc12, rfl⟩⟩ := hcut
       cases kq with
       | zero => exact absurd HA.out (by simp [r04_Guess.j1])
       | succ kj12 =>
        have H := HA.out
        clear HA
        simp only [r04_Guess.j1] at H
        by_cases c15 : x48_12 = true
        ·subst c15
         have H1 : (some t205) = some r := by rw [if_pos rfl] at H; exact H
         clear H
         have H := H1
         clear H1
         obtain rfl := Option.some.inj H
         go_wp2
         repeat (go_quiet (fail); try go_wp2)
         go_ret
         exact ⟨by first | rfl | (simp; done) | (simp [*]; done), by repeat (first | exact Drawn0.refl _ | apply Drawn0.step)⟩
        ·replace c15 := Bool.eq_false_iff.mpr c15
         subst c15
         have H1 : ((r04_at.f l1 a2 (Int.tmod a3 a2) (wrap64 ((wrap64 (Int.tdiv a3 a2)) - 1))).bind fun t206 => ((r04_at.f l1 a2 (wrap64 ((Int.tmod a3 a2) - 1)) (wrap64 ((wrap64 (Int.tdiv a3 a2)) - 1))).bind fun t207 => (if (wrap64 ((wrap64 (t205 + t206)) - t207)) < t205 then (r04_Guess.j2 kj12 t205 t206 (wrap64 ((wrap64 (t205 + t206)) - t207)) (decide ((wrap64 ((wrap64 (t205 + t206)) - t207)) < t206))) else (r04_Guess.j2 kj12 t205 t206 (wrap64 ((wrap64 (t205 + t206)) - t207)) false)))) = some r := by rw [if_neg (show ¬ (false = true) by decide)] at H; exact H
         clear H
         have H := H1
         clear H1
         replace H := Option.bind_eq_some_iff.mp H
         obtain ⟨t206, A160, H⟩ := H
         replace H : ((r04_at.f l1 a2 (wrap64 ((Int.tmod a3 a2) - 1)) (wrap64 ((wrap64 (Int.tdiv a3 a2)) - 1))).bind fun t207 => (if (wrap64 ((wrap64 (t205 + t206)) - t207)) < t205 then (r04_Guess.j2 kj12 t205 t206 (wrap64 ((wrap64 (t205 + t206)) - t207)) (decide ((wrap64 ((wrap64 (t205 + t206)) - t207)) < t206))) else (r04_Guess.j2 kj12 t205 t206 (wrap64 ((wrap64 (t205 + t206)) - t207)) false))) = some r := H
         have A16 := Ad.mk A160
         clear A160
         replace H := Option.bind_eq_some_iff.mp H
         obtain ⟨t207, A170, H⟩ := H
         replace H : (if (wrap64 ((wrap64 (t205 + t206)) - t207)) < t205 then (r04_Guess.j2 kj12 t205 t206 (wrap64 ((wrap64 (t205 + t206)) - t207)) (decide ((wrap64 ((wrap64 (t205 + t206)) - t207)) < t206))) else (r04_Guess.j2 kj12 t205 t206 (wrap64 ((wrap64 (t205 + t206)) - t207)) false)) = some r := H
         have A17 := Ad.mk A170
         clear A170
         have HC18 := Ad.mk H
         clear H
         go_upto_region 11 with (first | (go_at_call 168; (with_reducible refine (r04_at.calls _ _ l1 a2 (Int.tmod a3 a2) (wrap64 ((wrap64 (Int.tdiv a3 a2)) - 1)) t206 _ ?side1 ?side2 A16.out).mono ?_); (case side1 => repeat (first | exact HR1.out | (with_reducible refine Kd.C_alloc ?_ _) | (with_reducible refine Kd.C_drewN ?_ _) | (with_reducible refine Kd.C_drew ?_))); (case side2 => exact HC1.out); rintro e w' ⟨rfl, ⟨nd, rfl⟩⟩; (try first | exact ⟨rfl, _, World.drewN_drewN _ _ _⟩ | exact ⟨rfl, _, Eq.trans (World.drewN_drewN _ _ _) (congrArg (World.drewN _) (Nat.add_assoc _ _ _))⟩)) | (go_at_call 168; (with_reducible refine (r04_at.calls _ _ l1 a2 (wrap64 ((Int.tmod a3 a2) - 1)) (wrap64 ((wrap64 (Int.tdiv a3 a2)) - 1)) t207 _ ?side1 ?side2 A17.out).mono ?_); (case side1 => repeat (first | exact HR1.out | (with_reducible refine Kd.C_alloc ?_ _) | (with_reducible refine Kd.C_drewN ?_ _) | (with_reducible refine Kd.C_drew ?_))); (case side2 => exact HC1.out); rintro e w' ⟨rfl, ⟨nd, rfl⟩⟩; (try first | exact ⟨rfl, _, World.drewN_drewN _ _ _⟩ | exact ⟨rfl, _, Eq.trans (World.drewN_drewN _ _ _) (congrArg (World.drewN _) (Nat.add_assoc _ _ _))⟩)))
         repeat (go_quiet (first | (go_at_call 168; (with_reducible refine (r04_at.calls _ _ l1 a2 (Int.tmod a3 a2) (wrap64 ((wrap64 (Int.tdiv a3 a2)) - 1)) t206 _ ?side1 ?side2 A16.out).mono ?_); (case side1 => repeat (first | exact HR1.out | (with_reducible refine Kd.C_alloc ?_ _) | (with_reducible refine Kd.C_drewN ?_ _) | (with_reducible refine Kd.C_drew ?_))); (case side2 => exact HC1.out); rintro e w' ⟨rfl, ⟨nd, rfl⟩⟩; (try first | exact ⟨rfl, _, World.drewN_drewN _ _ _⟩ | exact ⟨rfl, _, Eq.trans (World.drewN_drewN _ _ _) (congrArg (World.drewN _) (Nat.add_assoc _ _ _))⟩)) | (go_at_call 168; (with_reducible refine (r04_at.calls _ _ l1 a2 (wrap64 ((Int.tmod a3 a2) - 1)) (wrap64 ((wrap64 (Int.tdiv a3 a2)) - 1)) t207 _ ?side1 ?side2 A17.out).mono ?_); (case side1 => repeat (first | exact HR1.out | (with_reducible refine Kd.C_alloc ?_ _) | (with_reducible refine Kd.C_drewN ?_ _) | (with_reducible refine Kd.C_drew ?_))); (case side2 => exact HC1.out); rintro e w' ⟨rfl, ⟨nd, rfl⟩⟩; (try first | exact ⟨rfl, _, World.drewN_drewN _ _ _⟩ | exact ⟨rfl, _, Eq.trans (World.drewN_drewN _ _ _) (congrArg (World.drewN _) (Nat.add_assoc _ _ _))⟩))); go_upto_region 11 with (first | (go_at_call 168; (with_reducible refine (r04_at.calls _ _ l1 a2 (Int.tmod a3 a2) (wrap64 ((wrap64 (Int.tdiv a3 a2)) - 1)) t206 _ ?side1 ?side2 A16.out).mono ?_); (case side1 => repeat (first | exact HR1.out | (with_reducible refine Kd.C_alloc ?_ _) | (with_reducible refine Kd.C_drewN ?_ _) | (with_reducible refine Kd.C_drew ?_))); (case side2 => exact HC1.out); rintro e w' ⟨rfl, ⟨nd, rfl⟩⟩; (try first | exact ⟨rfl, _, World.drewN_drewN _ _ _⟩ | exact ⟨rfl, _, Eq.trans (World.drewN_drewN _ _ _) (congrArg (World.drewN _) (Nat.add_assoc _ _ _))⟩)) | (go_at_call 168; (with_reducible refine (r04_at.calls _ _ l1 a2 (wrap64 ((Int.tmod a3 a2) - 1)) (wrap64 ((wrap64 (Int.tdiv a3 a2)) - 1)) t207 _ ?side1 ?side2 A17.out).mono ?_); (case side1 => repeat (first | exact HR1.out | (with_reducible refine Kd.C_alloc ?_ _) | (with_reducible refine Kd.C_drewN ?_ _) | (with_reducible refine Kd.C_drew ?_))); (case side2 => exact HC1.out); rintro e w' ⟨rfl, ⟨nd, rfl⟩⟩; (try first | exact ⟨rfl, _, World.drewN_drewN _ _ _⟩ | exact ⟨rfl, _, Eq.trans (World.drewN_drewN _ _ _) (congrArg (World.drewN _) (Nat.add_assoc _ _ _))⟩))))
         (try simp only [Act.put, List.setIfInBounds_toArray, List.set_cons_zero, List.set_cons_succ])
         go_cut [74] (fun v74 wc => ∃ (kq : Nat) (x74_17 : Bool), v74 = .bool x74_17 ∧ Ad (r04_Guess.j2 kq t205 t206 (wrap64 ((wrap64 (t205 + t206)) - t207)) x74_17 = some r) ∧ Ad (kq ≤ kj12) ∧ Drawn0 w wc)
         case first =>
          have H := HC18.out
          clear HC18
          by_cases c19 : (wrap64 ((wrap64 (t205 + t206)) - t207)) < t205
          ·rw [if_pos c19] at H
           have c19b0 : decide ((wrap64 ((wrap64 (t205 + t206)) - t207)) < t205) = true := decide_eq_true c19
           clear c19
           (first | rw [c19b0] | (simp only [i64_w]; rw [c19b0]) | skip)
           have H' := Ad.mk H
           clear H
           go_wp2
           repeat (go_quiet (fail); try go_wp2)
           go_meet
           case rel => exact ⟨_, (decide ((wrap64 ((wrap64 (t205 + t206)) - t207)) < t206)), (by first | rfl | (simp; done) | (simp [*]; done)), H', ⟨by have := HJ5.out; have := HJ12.out; first | omega | exact Nat.le_refl _⟩, by repeat (first | exact Drawn0.refl _ | apply Drawn0.step)⟩
          ·rw [if_neg c19] at H
           have c19b0 : decide ((wrap64 ((wrap64 (t205 + t206)) - t207)) < t205) = false := decide_eq_false c19
           clear c19
           (first | rw [c19b0] | (simp only [i64_w]; rw [c19b0]) | skip)
           have H' := Ad.mk H
           clear H
           go_wp2
           repeat (go_quiet (fail); try go_wp2)
           go_meet
           case rel => exact ⟨_, (false), (by first | rfl | (simp; done) | (simp [*]; done)), H', ⟨by have := HJ5.out; have := HJ12.out; first | omega | exact Nat.le_refl _⟩, by repeat (first | exact Drawn0.refl _ | apply Drawn0.step)⟩
         case rest =>
          clear HC18
          try clear c1
          try clear p2
          try clear c5
          try clear c5b0
          try clear c5b1
          try clear p6
          try clear c7
          try clear c7b0
          try clear c7b1
          try clear c8
          try clear c8b0
          try clear c8b1
          try clear c9
          try clear c10
          try clear c10b0
          try clear c10b1
          try clear c12
          try clear c14
          try clear c14b0
          try clear c14b1
          try clear c15
          try clear c19
          try clear c19b0
          try clear p2
          try clear p6
          obtain ⟨kq, x74_17, rfl, HA, HJ17, ⟨mc17, rfl⟩⟩ := hcut
          cases kq with
          | zero => exact absurd HA.out (by simp [r04_Guess.j2])
          | succ kj17 =>
           have H := HA.out
           clear HA
           simp only [r04_Guess.j2] at H
           by_cases c20 : x74_17 = true
           ·subst c20
            have H1 : (if t205 < t206 then (some t205) else (some t206)) = some r := by rw [if_pos rfl] at H; exact H
            clear H
            have H := H1
            clear H1
            by_cases c21 : t205 < t206
            ·rw [if_pos c21] at H
             have c21b0 : decide (t205 < t206) = true := decide_eq_true c21
             clear c21
             obtain rfl := Option.some.inj H
             go_wp2
             repeat (go_quiet (fail); try go_wp2)
             go_ret
             exact ⟨by first | rfl | (simp; done) | (simp [*]; done), by repeat (first | exact Drawn0.refl _ | apply Drawn0.step)⟩
            ·rw [if_neg c21] at H
             have c21b0 : decide (t205 < t206) = false := decide_eq_false c21
             clear c21
             obtain rfl := Option.some.inj H
             go_wp2
             repeat (go_quiet (fail); try go_wp2)
             go_ret
             exact ⟨by first | rfl | (simp; done) | (simp [*]; done), by repeat (first | exact Drawn0.refl _ | apply Drawn0.step)⟩
           ·replace c20 := Bool.eq_false_iff.mpr c20
            subst c20
            have H1 : (if (wrap64 ((wrap64 (t205 + t206)) - t207)) > t205 then (r04_Guess.j3 kj17 t205 t206 (wrap64 ((wrap64 (t205 + t206)) - t207)) (decide ((wrap64 ((wrap64 (t205 + t206)) - t207)) > t206))) else (r04_Guess.j3 kj17 t205 t206 (wrap64 ((wrap64 (t205 + t206)) - t207)) false)) = some r := by rw [if_neg (show ¬ (false = true) by decide)] at H; exact H
            clear H
            have H := H1
            clear H1
            have HC22 := Ad.mk H
            clear H
            go_upto_region 15 with (fail)
            repeat (go_quiet (fail); go_upto_region 15 with (fail))
            go_cut [87] (fun v87 wc => ∃ (kq : Nat) (x87_21 : Bool), v87 = .bool x87_21 ∧ Ad (r04_Guess.j3 kq t205 t206 (wrap64 ((wrap64 (t205 + t206)) - t207)) x87_21 = some r) ∧ Ad (kq ≤ kj17) ∧ Drawn0 w wc)
            case first =>
             have H := HC22.out
             clear HC22
             by_cases c23 : (wrap64 ((wrap64 (t205 + t206)) - t207)) > t205
             ·rw [if_pos c23] at H
              have c23b0 : decide (t205 < (wrap64 ((wrap64 (t205 + t206)) - t207))) = true := decide_eq_true c23
              clear c23
              (first | rw [c23b0] | (simp only [i64_w]; rw [c23b0]) | skip)
              have H' := Ad.mk H
              clear H
              go_wp2
              repeat (go_quiet (fail); try go_wp2)
              go_meet
              case rel => exact ⟨_, (decide ((wrap64 ((wrap64 (t205 + t206)) - t207)) > t206)), (by first | rfl | (simp; done) | (simp [*]; done)), H', ⟨by have := HJ5.out; have := HJ12.out; have := HJ17.out; first | omega | exact Nat.le_refl _⟩, by repeat (first | exact Drawn0.refl _ | apply Drawn0.step)⟩
             ·rw [if_neg c23] at H
              have c23b0 : decide (t205 < (wrap64 ((wrap64 (t205 + t206)) - t207))) = false := decide_eq_false c23
              clear c23
              (first | rw [c23b0] | (simp only [i64_w]; rw [c23b0]) | skip)
              have H' := Ad.mk H
              clear H
              go_wp2
              repeat (go_quiet (fail); try go_wp2)
              go_meet
              case rel => exact ⟨_, (false), (by first | rfl | (simp; done) | (simp [*]; done)), H', ⟨by have := HJ5.out; have := HJ12.out; have := HJ17.out; first | omega | exact Nat.le_refl _⟩, by repeat (first | exact Drawn0.refl _ | apply Drawn0.step)⟩
            case rest =>
             clear HC22
             try clear c1
             try clear c2
             try clear p2
             try clear c5
             try clear c5b0
             try clear c5b1
             try clear p6
             try clear c7
             try clear c7b0
             try clear c7b1
             try clear c8
             try clear c8b0
             try clear c8b1
             try clear c9
             try clear c10
             try clear c10b0
             try clear c10b1
             try clear c12
             try clear c14
             try clear c14b0
             try clear c14b1
             try clear c15
             try clear c17
             try clear c19
             try clear c19b0
             try clear c20
             try clear c21
             try clear c21b0
             try clear c23
             try clear c23b0
             try clear p2
             try clear p6
             obtain ⟨kq, x87_21, rfl, HA, HJ21, ⟨mc21, rfl⟩⟩ := hcut
             cases kq with
             | zero => exact absurd HA.out (by simp [r04_Guess.j3])
             | succ kj21 =>
              have H := HA.out
              clear HA
              simp only [r04_Guess.j3] at H
              by_cases c24 : x87_21 = true
              ·subst c24
               have H1 : (if t205 > t206 then (some t205) else (some t206)) = some r := by rw [if_pos rfl] at H; exact H
               clear H
               have H := H1
               clear H1
               by_cases c25 : t205 > t206
               ·rw [if_pos c25] at H
                have c25b0 : decide (t206 < t205) = true := decide_eq_true c25
                clear c25
                obtain rfl := Option.some.inj H
                go_wp2
                repeat (go_quiet (fail); try go_wp2)
                go_ret
                exact ⟨by first | rfl | (simp; done) | (simp [*]; done), by repeat (first | exact Drawn0.refl _ | apply Drawn0.step)⟩
               ·rw [if_neg c25] at H
                have c25b0 : decide (t206 < t205) = false := decide_eq_false c25
                clear c25
                obtain rfl := Option.some.inj H
                go_wp2
                repeat (go_quiet (fail); try go_wp2)
                go_ret
                exact ⟨by first | rfl | (simp; done) | (simp [*]; done), by repeat (first | exact Drawn0.refl _ | apply Drawn0.step)⟩
              ·replace c24 := Bool.eq_false_iff.mpr c24
               subst c24
               have H1 : (some (wrap64 ((wrap64 (t205 + t206)) - t207))) = some r := by rw [if_neg (show ¬ (false = true) by decide)] at H; exact H
               clear H
               have H := H1
               clear H1
               obtain rfl := Option.some.inj H
               go_wp2
               repeat (go_quiet (fail); try go_wp2)
               go_ret
               exact ⟨by first | rfl | (simp; done) | (simp [*]; done), by repeat (first | exact Drawn0.refl _ | apply Drawn0.step)⟩
def r04_Cells.l0 : Nat → Int → List Int → Int → List Int → Int → Option (List Int × Int)
 | 0, _, _, _, _, _ => none
 | k + 1, x0, x1, x2, x8, x9 => if x9 < (x1.length : Int) then ((r04_Guess.f k x0 x8 x2 x9).bind fun t212 => (if 0 ≤ x9 then (if (rd x1 x9) > (wrap64 (2147483647 - t212)) then (some (([] : List Int), 7)) else (if (rd x1 x9) < (wrap64 ((-2147483648) - t212)) then (some (([] : List Int), 7)) else (if x8.length < 17592186044416 then (r04_Cells.l0 k x0 x1 x2 (x8 ++ [wrap64 (t212 + (rd x1 x9))]) (wrap64 (x9 + 1))) else (none)))) else (none))) else (some (x8, 0))
def r04_Cells.f (k : Nat) (a0 : Int) (l1 : List Int) (a2 : Int) : Option (List Int × Int) := (r04_Right.f a0 a2 (l1.length : Int)).bind fun t208 => (if t208 = true then (r04_Cells.l0 k a0 l1 a2 (([] : List Int)) 0) else (some (([] : List Int), 11)))
set_option maxHeartbeats 8000000 in
set_option maxRecDepth 100000 in
theorem r04_Cells.calls (k : Nat) (a0 : Int) (A1 : Option Addr) (c1 : Nat) (l1 : List Int) (a2 : Int) (r1 : List Int) (r2 : Int) (w : World) (hr1 : Kd.C (Kd.int .i64) w A1 l1.length l1) (hc1 : l1.length ≤ c1) (h : r04_Cells.f k a0 l1 a2 = some (r1, r2)) :
  Calls Tryz.prog 58 #[.int .i64 a0, .slice A1 l1.length c1, .int .i64 a2] w fun e w' => ∃ v0_ : Value, e = .returned (.tuple #[v0_, .int .i64 r2]) ∧ Kd.R (Kd.int .i64) 2 w' w.heap.size (fun _ => True) v0_ r1 ∧ Below w.heap.size w w' := by
 have HR1 := Ad.mk hr1
 have HC1 := Ad.mk hc1
 clear hr1 hc1
 have HB := Ad.mk (Below.refl w.heap.size w)
 have H : ((r04_Right.f a0 a2 (l1.length : Int)).bind fun t208 => (if t208 = true then (r04_Cells.l0 k a0 l1 a2 (([] : List Int)) 0) else (some (([] : List Int), 11)))) = some (r1, r2) := h
 clear h
 replace H := Option.bind_eq_some_iff.mp H
 obtain ⟨t208, A40, H⟩ := H
 replace H : (if t208 = true then (r04_Cells.l0 k a0 l1 a2 (([] : List Int)) 0) else (some (([] : List Int), 11))) = some (r1, r2) := H
 have A4 := Ad.mk A40
 clear A40
 by_cases c5 : t208 = true
 ·subst c5
  have H1 : (r04_Cells.l0 k a0 l1 a2 (([] : List Int)) 0) = some (r1, r2) := by rw [if_pos rfl] at H; exact H
  clear H
  have H := H1
  clear H1
  obtain ⟨y209, hy209⟩ : ∃ y_ : List Int, y_ = (([] : List Int)) := ⟨_, rfl⟩
  replace H : (r04_Cells.l0 k a0 l1 a2 y209 0) = some (r1, r2) := by first | (rw [hy209]; with_reducible exact H) | (have H2_ := (Option.bind_some _ _).symm.trans H; rw [hy209]; with_reducible exact H2_) | (have H2_ := (Option.bind_some _ _).symm.trans H; with_reducible exact H2_) | with_reducible exact H | (rw [hy209]; exact H) | exact H
  have Ny209 := Ad.mk hy209
  clear hy209
  have H' := Ad.mk H
  clear H
  go_enter Tryz.func58, Tryz.ntmps58
  go_wp2_with (first | ((with_reducible refine gate_callee (f := 106) rfl ?_); refine goesL_ (some 15) rfl rfl Tryz.func106 (by kernel_rfl) rfl #[.int .i64 a0, .int .i64 a2, .int .i64 (l1.length : Int)] rfl (by (try simp only [List.map_toArray, List.map_cons, List.map_nil]); first | done | rfl | (simp only [List.length_drop, List.length_take]; rfl)) ?_; (with_reducible refine (r04_Right.calls a0 a2 (l1.length : Int) true _ A4.out).mono ?_); rintro e w' ⟨rfl, ⟨nd, rfl⟩⟩; refine ⟨_, rfl, ?_⟩) | ((with_reducible refine gate_dst (N := 17) rfl ?_); refine Kd.R_lit (Kd.int .i64) _ 2 ?hg (N := 17) ?hd (xs := ([] : List Int)) (inner := []) (ok := fun _ => True) (okp := fun _ => True) ?hr ?hp (fun _ hk => hk) trivial (Below.refl _ _) (Nat.le_refl _) (by simp) ?_; (case hd => rfl); (case hg => rfl); (case hr => first | (go_simp; done) | (go_simp; rfl)); (case hp => exact (Reps.none _ _)); intro v210 w6 ho7 hb hg_ hnew_; clear hg_ hnew_; (first | rw [← Ny209.out] at ho7 | (simp only [Int.reduceToNat] at ho7; rw [← Ny209.out] at ho7)); have n0_ := Ad.mk (Kd.R_lower ho7 (below_size (by repeat (first | (with_reducible first | exact HB.out | apply bwA | apply bwN | apply bw1) | exact HB.out)))); have n1_ := Ad.mk (below_step (by repeat (first | (with_reducible first | exact HB.out | apply bwA | apply bwN | apply bw1) | exact HB.out)) hb); clear HB; have HO211 := n0_; have HB := n1_; clear n0_ n1_; clear hb ho7))
  go_loopg [8, 9] k (fun kq v8 v9 w' => ∃ (x8_1 : List Int) (x9_1 : Int), v9 = .int .i64 x9_1 ∧ Ad (r04_Cells.l0 kq a0 l1 a2 x8_1 x9_1 = some (r1, r2)) ∧ Ad (kq ≤ k) ∧ Ad (Kd.R (Kd.int .i64) 2 w' w.heap.size (fun _ => True) v8 x8_1) ∧ Ad (Below w.heap.size w w'))
  case atStart => exact ⟨(y209), (0), (by first | rfl | (simp; done) | (simp [*]; done)), H', ⟨Nat.le_refl _⟩, ⟨by (with_reducible repeat (first | apply Kd.R_alloc | apply Kd.R_drewN | apply Kd.R_drew)); exact HO211.out⟩, ⟨by repeat (first | (with_reducible first | exact HB.out | apply bwA | apply bwN | apply bw1) | exact HB.out)⟩⟩
  case round =>
   clear H'
   try clear c1
   try clear p2
   try clear c5
   obtain ⟨x8_1, x9_1, rfl, HA, HK1, HO_8, HB⟩ := hrel
   cases gk with
   | zero => exact absurd HA.out (by simp [r04_Cells.l0])
   | succ k1 =>
    have H := HA.out
    clear HA
    simp only [r04_Cells.l0] at H
    by_cases c8 : x9_1 < (l1.length : Int)
    ·rw [if_pos c8] at H
     have c8b0 : decide (x9_1 < (l1.length : Int)) = true := decide_eq_true c8
     clear c8
     replace H := Option.bind_eq_some_iff.mp H
     obtain ⟨t212, A90, H⟩ := H
     replace H : (if 0 ≤ x9_1 then (if (rd l1 x9_1) > (wrap64 (2147483647 - t212)) then (some (([] : List Int), 7)) else (if (rd l1 x9_1) < (wrap64 ((-2147483648) - t212)) then (some (([] : List Int), 7)) else (if x8_1.length < 17592186044416 then (r04_Cells.l0 k1 a0 l1 a2 (x8_1 ++ [wrap64 (t212 + (rd l1 x9_1))]) (wrap64 (x9_1 + 1))) else (none)))) else (none)) = some (r1, r2) := H
     have A9 := Ad.mk A90
     clear A90
     by_cases c10 : 0 ≤ x9_1
     ·rw [if_pos c10] at H
      have c10b0 : decide (0 ≤ x9_1) = true := decide_eq_true c10
      clear c10
      by_cases c11 : (rd l1 x9_1) > (wrap64 (2147483647 - t212))
      ·rw [if_pos c11] at H
       have c11b0 : decide ((wrap64 (2147483647 - t212)) < (rd l1 x9_1)) = true := decide_eq_true c11
       clear c11
       simp only [Option.some.injEq, Prod.mk.injEq] at H
       obtain ⟨rfl, rfl⟩ := H
       obtain ⟨Ao12, co12, eo12⟩ := Kd.R_slice HO_8.out
       subst eo12
       go_wp2_with (first | ((with_reducible refine gate_callee (f := 107) rfl ?_); refine goesL_ (some 28) rfl rfl Tryz.func107 (by kernel_rfl) rfl #[.int .i64 a0, .slice Ao12 x8_1.length co12, .int .i64 a2, .int .i64 x9_1] rfl (by (try simp only [List.map_toArray, List.map_cons, List.map_nil]); first | done | rfl | (simp only [List.length_drop, List.length_take]; rfl)) ?_; (with_reducible refine (r04_Guess.calls k1 a0 _ _ x8_1 a2 x9_1 t212 _ ?side1 ?side2 A9.out).mono ?_); (case side1 => repeat (first | exact (Kd.R_reads' HO_8.out).2.2 | (with_reducible refine Kd.C_alloc ?_ _) | (with_reducible refine Kd.C_drewN ?_ _) | (with_reducible refine Kd.C_drew ?_))); (case side2 => exact (Kd.R_reads' HO_8.out).2.1); rintro e w' ⟨rfl, ⟨nd, rfl⟩⟩; refine ⟨_, rfl, ?_⟩; have p213 : 0 ≤ (x9_1 : Int) := of_decide_eq_true (by first | (with_reducible assumption) | assumption); have q213 : x9_1 < (l1.length : Int) := of_decide_eq_true (by first | (with_reducible assumption) | assumption); obtain ⟨ad213, e213, hx213_0⟩ := Kd.at_int HR1.out x9_1 p213 q213; cases e213; replace hx213_0 := (HB.out.cell (World.block_lt_of_cell? w _ hx213_0)).trans hx213_0; replace p213 := eq_true p213; replace q213 := eq_true q213))
       go_ret2
       exact ⟨_, by first | rfl | (simp [errW_none, errW_some] <;> rfl) | (simp [*, errW_none, errW_some] <;> rfl), by first | exact Kd.R_nil _ _ _ _ _ | exact Kd.N_nil _ _ _ _ _ | exact Kd.V_nil _ _ _ _ _ | exact Kd.Q_nil _ _ _ _ _ | exact Kd.S_nil _ _ _ _ _, by repeat (first | (with_reducible first | exact HB.out | apply bwA | apply bwN | apply bw1) | exact HB.out)⟩
      ·rw [if_neg c11] at H
       have c11b0 : decide ((wrap64 (2147483647 - t212)) < (rd l1 x9_1)) = false := decide_eq_false c11
       clear c11
       by_cases c13 : (rd l1 x9_1) < (wrap64 ((-2147483648) - t212))
       ·rw [if_pos c13] at H
        have c13b0 : decide ((rd l1 x9_1) < (wrap64 ((-2147483648) - t212))) = true := decide_eq_true c13
        clear c13
        simp only [Option.some.injEq, Prod.mk.injEq] at H
        obtain ⟨rfl, rfl⟩ := H
        obtain ⟨Ao14, co14, eo14⟩ := Kd.R_slice HO_8.out
        subst eo14
        go_wp2_with (first | ((with_reducible refine gate_callee (f := 107) rfl ?_); refine goesL_ (some 28) rfl rfl Tryz.func107 (by kernel_rfl) rfl #[.int .i64 a0, .slice Ao14 x8_1.length co14, .int .i64 a2, .int .i64 x9_1] rfl (by (try simp only [List.map_toArray, List.map_cons, List.map_nil]); first | done | rfl | (simp only [List.length_drop, List.length_take]; rfl)) ?_; (with_reducible refine (r04_Guess.calls k1 a0 _ _ x8_1 a2 x9_1 t212 _ ?side1 ?side2 A9.out).mono ?_); (case side1 => repeat (first | exact (Kd.R_reads' HO_8.out).2.2 | (with_reducible refine Kd.C_alloc ?_ _) | (with_reducible refine Kd.C_drewN ?_ _) | (with_reducible refine Kd.C_drew ?_))); (case side2 => exact (Kd.R_reads' HO_8.out).2.1); rintro e w' ⟨rfl, ⟨nd, rfl⟩⟩; refine ⟨_, rfl, ?_⟩; have p213 : 0 ≤ (x9_1 : Int) := of_decide_eq_true (by first | (with_reducible assumption) | assumption); have q213 : x9_1 < (l1.length : Int) := of_decide_eq_true (by first | (with_reducible assumption) | assumption); obtain ⟨ad213, e213, hx213_0⟩ := Kd.at_int HR1.out x9_1 p213 q213; cases e213; replace hx213_0 := (HB.out.cell (World.block_lt_of_cell? w _ hx213_0)).trans hx213_0; replace p213 := eq_true p213; replace q213 := eq_true q213; have p214 : 0 ≤ (x9_1 : Int) := of_decide_eq_true (by first | (with_reducible assumption) | assumption); have q214 : x9_1 < (l1.length : Int) := of_decide_eq_true (by first | (with_reducible assumption) | assumption); obtain ⟨ad214, e214, hx214_0⟩ := Kd.at_int HR1.out x9_1 p214 q214; obtain rfl : ad213 = ad214 := (by injection e214); replace hx214_0 := (HB.out.cell (World.block_lt_of_cell? w _ hx214_0)).trans hx214_0; replace p214 := eq_true p214; replace q214 := eq_true q214))
        go_ret2
        exact ⟨_, by first | rfl | (simp [errW_none, errW_some] <;> rfl) | (simp [*, errW_none, errW_some] <;> rfl), by first | exact Kd.R_nil _ _ _ _ _ | exact Kd.N_nil _ _ _ _ _ | exact Kd.V_nil _ _ _ _ _ | exact Kd.Q_nil _ _ _ _ _ | exact Kd.S_nil _ _ _ _ _, by repeat (first | (with_reducible first | exact HB.out | apply bwA | apply bwN | apply bw1) | exact HB.out)⟩
       ·rw [if_neg c13] at H
        have c13b0 : decide ((rd l1 x9_1) < (wrap64 ((-2147483648) - t212))) = false := decide_eq_false c13
        clear c13
        by_cases c15 : x8_1.length < 17592186044416
        ·rw [if_pos c15] at H
         have LMc15 := Ad.mk c15
         clear c15
         obtain ⟨y216, hy216⟩ : ∃ y_ : List Int, y_ = (x8_1 ++ [wrap64 (t212 + (rd l1 x9_1))]) := ⟨_, rfl⟩
         replace H : (r04_Cells.l0 k1 a0 l1 a2 y216 (wrap64 (x9_1 + 1))) = some (r1, r2) := by first | (rw [hy216]; with_reducible exact H) | (have H2_ := (Option.bind_some _ _).symm.trans H; rw [hy216]; with_reducible exact H2_) | (have H2_ := (Option.bind_some _ _).symm.trans H; with_reducible exact H2_) | with_reducible exact H | (rw [hy216]; exact H) | exact H
         have Ny216 := Ad.mk hy216
         clear hy216
         have H' := Ad.mk H
         clear H
         obtain ⟨Ao16, co16, eo16⟩ := Kd.R_slice HO_8.out
         subst eo16
         go_wp2_with (first | ((with_reducible refine gate_callee (f := 107) rfl ?_); refine goesL_ (some 28) rfl rfl Tryz.func107 (by kernel_rfl) rfl #[.int .i64 a0, .slice Ao16 x8_1.length co16, .int .i64 a2, .int .i64 x9_1] rfl (by (try simp only [List.map_toArray, List.map_cons, List.map_nil]); first | done | rfl | (simp only [List.length_drop, List.length_take]; rfl)) ?_; (with_reducible refine (r04_Guess.calls k1 a0 _ _ x8_1 a2 x9_1 t212 _ ?side1 ?side2 A9.out).mono ?_); (case side1 => repeat (first | exact (Kd.R_reads' HO_8.out).2.2 | (with_reducible refine Kd.C_alloc ?_ _) | (with_reducible refine Kd.C_drewN ?_ _) | (with_reducible refine Kd.C_drew ?_))); (case side2 => exact (Kd.R_reads' HO_8.out).2.1); rintro e w' ⟨rfl, ⟨nd, rfl⟩⟩; refine ⟨_, rfl, ?_⟩; have p213 : 0 ≤ (x9_1 : Int) := of_decide_eq_true (by first | (with_reducible assumption) | assumption); have q213 : x9_1 < (l1.length : Int) := of_decide_eq_true (by first | (with_reducible assumption) | assumption); obtain ⟨ad213, e213, hx213_0⟩ := Kd.at_int HR1.out x9_1 p213 q213; cases e213; replace hx213_0 := (HB.out.cell (World.block_lt_of_cell? w _ hx213_0)).trans hx213_0; replace p213 := eq_true p213; replace q213 := eq_true q213; have p214 : 0 ≤ (x9_1 : Int) := of_decide_eq_true (by first | (with_reducible assumption) | assumption); have q214 : x9_1 < (l1.length : Int) := of_decide_eq_true (by first | (with_reducible assumption) | assumption); obtain ⟨ad214, e214, hx214_0⟩ := Kd.at_int HR1.out x9_1 p214 q214; obtain rfl : ad213 = ad214 := (by injection e214); replace hx214_0 := (HB.out.cell (World.block_lt_of_cell? w _ hx214_0)).trans hx214_0; replace p214 := eq_true p214; replace q214 := eq_true q214; have p215 : 0 ≤ (x9_1 : Int) := of_decide_eq_true (by first | (with_reducible assumption) | assumption); have q215 : x9_1 < (l1.length : Int) := of_decide_eq_true (by first | (with_reducible assumption) | assumption); obtain ⟨ad215, e215, hx215_0⟩ := Kd.at_int HR1.out x9_1 p215 q215; obtain rfl : ad213 = ad215 := (by injection e215); replace hx215_0 := (HB.out.cell (World.block_lt_of_cell? w _ hx215_0)).trans hx215_0; replace p215 := eq_true p215; replace q215 := eq_true q215) | ((with_reducible refine gate_builtin (b := .append) (xs := #[.tmp 45, .tmp 52]) rfl ?_); at_builtin; refine Kd.R_append (Kd.int .i64) (w0 := w) w.heap.size rfl (.tmp 45) (.tmp 52) 26 2 (.int .i64 0) 8 rfl Tryz.underlying26 info2 rfl (by decide) (by omega) (.slice Ao16 x8_1.length co16) x8_1 (wrap64 (t212 + (rd l1 x9_1))) [.int .i64 (wrap64 (t212 + (rd l1 x9_1)))] (fun _ => True) (fun _ => False) rfl rfl ?aP (fun _ hk => hk.elim) ?aF ?aO ?aB ?aS ?aL ?_; (case aP => exact rfl); (case aB => exact (by repeat (first | (with_reducible first | exact HB.out | apply bwA | apply bwN | apply bw1) | exact HB.out))); (case aF => exact (fun _ _ => trivial)); (case aO => exact (by (with_reducible repeat (first | apply Kd.R_alloc | apply Kd.R_drewN | apply Kd.R_drew)); exact HO_8.out)); (case aS => exact (below_size (by repeat (first | (with_reducible first | exact HB.out | apply bwA | apply bwN | apply bw1) | exact HB.out)))); (case aL => have := LMc15.out; omega); intro v217 w17 ho hb hg hat; rw [← Ny216.out] at ho; have n0_ := Ad.mk (hb); have n1_ := Ad.mk (ho); clear HB; clear HO_8; have HB := n0_; have HO218 := n1_; clear n0_ n1_; clear ho hb hg hat))
         go_roundg k1
         case measure => have := HK1.out; omega
         case rel => exact ⟨(y216), (wrap64 (x9_1 + 1)), (by first | rfl | (simp; done) | (simp [*]; done)), H', ⟨by have := HK1.out; omega⟩, ⟨by (with_reducible repeat (first | apply Kd.R_alloc | apply Kd.R_drewN | apply Kd.R_drew)); exact HO218.out⟩, ⟨by repeat (first | (with_reducible first | exact HB.out | apply bwA | apply bwN | apply bw1) | exact HB.out)⟩⟩
        ·rw [if_neg c15] at H
         exact absurd H (by simp)
     ·rw [if_neg c10] at H
      exact absurd H (by simp)
    ·rw [if_neg c8] at H
     have c8b0 : decide (x9_1 < (l1.length : Int)) = false := decide_eq_false c8
     clear c8
     simp only [Option.some.injEq, Prod.mk.injEq] at H
     obtain ⟨rfl, rfl⟩ := H
     go_wp2
     go_ret2
     exact ⟨_, by first | rfl | (simp [errW_none, errW_some] <;> rfl) | (simp [*, errW_none, errW_some] <;> rfl), by (with_reducible repeat (first | apply Kd.R_alloc | apply Kd.R_drewN | apply Kd.R_drew)); exact HO_8.out, by repeat (first | (with_reducible first | exact HB.out | apply bwA | apply bwN | apply bw1) | exact HB.out)⟩
 ·replace c5 := Bool.eq_false_iff.mpr c5
  subst c5
  have H1 : (some (([] : List Int), 11)) = some (r1, r2) := by rw [if_neg (show ¬ (false = true) by decide)] at H; exact H
  clear H
  have H := H1
  clear H1
  simp only [Option.some.injEq, Prod.mk.injEq] at H
  obtain ⟨rfl, rfl⟩ := H
  go_enter Tryz.func58, Tryz.ntmps58
  go_wp2_with (first | ((with_reducible refine gate_callee (f := 106) rfl ?_); refine goesL_ (some 15) rfl rfl Tryz.func106 (by kernel_rfl) rfl #[.int .i64 a0, .int .i64 a2, .int .i64 (l1.length : Int)] rfl (by (try simp only [List.map_toArray, List.map_cons, List.map_nil]); first | done | rfl | (simp only [List.length_drop, List.length_take]; rfl)) ?_; (with_reducible refine (r04_Right.calls a0 a2 (l1.length : Int) false _ A4.out).mono ?_); rintro e w' ⟨rfl, ⟨nd, rfl⟩⟩; refine ⟨_, rfl, ?_⟩))
  go_ret2
  exact ⟨_, by first | rfl | (simp [errW_none, errW_some] <;> rfl) | (simp [*, errW_none, errW_some] <;> rfl), by first | exact Kd.R_nil _ _ _ _ _ | exact Kd.N_nil _ _ _ _ _ | exact Kd.V_nil _ _ _ _ _ | exact Kd.Q_nil _ _ _ _ _ | exact Kd.S_nil _ _ _ _ _, by repeat (first | (with_reducible first | exact HB.out | apply bwA | apply bwN | apply bw1) | exact HB.out)⟩
def r06_Get.f (k : Nat) (l0 : List Int) (a1 : Int) (a2 : Int) : Option (List Int × Int × Int) := (r06_Right.f a1 a2).bind fun t219 => (if t219 = true then (if (l0.length : Int) = 0 then (some (([] : List Int), 0, 14)) else (if 0 < (l0.length : Int) then (if (rd l0 0) > 2 then (some (([] : List Int), 0, 13)) else ((r05_Get.f k l0 1 (wrap64 (a1 * a2))).bind fun bt221 => (if bt221.2.2 = 0 then (if bt221.2.1 < (l0.length : Int) then (some (([] : List Int), 0, 13)) else ((r04_Cells.f k (wrap64 (rd l0 0)) bt221.1 a1).bind fun bt227 => (if bt227.2 = 0 then (some (bt227.1, wrap64 (rd l0 0), 0)) else (some (([] : List Int), 0, bt227.2))))) else (some (([] : List Int), 0, bt221.2.2))))) else (none))) else (some (([] : List Int), 0, 3)))
set_option maxHeartbeats 8000000 in
set_option maxRecDepth 100000 in
theorem r06_Get.calls (k : Nat) (A0 : Option Addr) (c0 : Nat) (l0 : List Int) (a1 : Int) (a2 : Int) (r1 : List Int) (r2 : Int) (r3 : Int) (w : World) (hr0 : Kd.C (Kd.int .u8) w A0 l0.length l0) (hc0 : l0.length ≤ c0) (h : r06_Get.f k l0 a1 a2 = some (r1, r2, r3)) :
  Calls Tryz.prog 32 #[.slice A0 l0.length c0, .int .i64 a1, .int .i64 a2] w fun e w' => ∃ v0_ : Value, e = .returned (.tuple #[v0_, .int .i64 r2, .int .i64 r3]) ∧ Kd.R (Kd.int .i64) 2 w' w.heap.size (fun _ => True) v0_ r1 ∧ Below w.heap.size w w' := by
 have HR0 := Ad.mk hr0
 have HC0 := Ad.mk hc0
 clear hr0 hc0
 have HB := Ad.mk (Below.refl w.heap.size w)
 have H : ((r06_Right.f a1 a2).bind fun t219 => (if t219 = true then (if (l0.length : Int) = 0 then (some (([] : List Int), 0, 14)) else (if 0 < (l0.length : Int) then (if (rd l0 0) > 2 then (some (([] : List Int), 0, 13)) else ((r05_Get.f k l0 1 (wrap64 (a1 * a2))).bind fun bt221 => (if bt221.2.2 = 0 then (if bt221.2.1 < (l0.length : Int) then (some (([] : List Int), 0, 13)) else ((r04_Cells.f k (wrap64 (rd l0 0)) bt221.1 a1).bind fun bt227 => (if bt227.2 = 0 then (some (bt227.1, wrap64 (rd l0 0), 0)) else (some (([] : List Int), 0, bt227.2))))) else (some (([] : List Int), 0, bt221.2.2))))) else (none))) else (some (([] : List Int), 0, 3)))) = some (r1, r2, r3) := h
 clear h
 replace H := Option.bind_eq_some_iff.mp H
 obtain ⟨t219, A40, H⟩ := H
 replace H : (if t219 = true then (if (l0.length : Int) = 0 then (some (([] : List Int), 0, 14)) else (if 0 < (l0.length : Int) then (if (rd l0 0) > 2 then (some (([] : List Int), 0, 13)) else ((r05_Get.f k l0 1 (wrap64 (a1 * a2))).bind fun bt221 => (if bt221.2.2 = 0 then (if bt221.2.1 < (l0.length : Int) then (some (([] : List Int), 0, 13)) else ((r04_Cells.f k (wrap64 (rd l0 0)) bt221.1 a1).bind fun bt227 => (if bt227.2 = 0 then (some (bt227.1, wrap64 (rd l0 0), 0)) else (some (([] : List Int), 0, bt227.2))))) else (some (([] : List Int), 0, bt221.2.2))))) else (none))) else (some (([] : List Int), 0, 3))) = some (r1, r2, r3) := H
 have A4 := Ad.mk A40
 clear A40
 by_cases c5 : t219 = true
 ·subst c5
  have H1 : (if (l0.length : Int) = 0 then (some (([] : List Int), 0, 14)) else (if 0 < (l0.length : Int) then (if (rd l0 0) > 2 then (some (([] : List Int), 0, 13)) else ((r05_Get.f k l0 1 (wrap64 (a1 * a2))).bind fun bt221 => (if bt221.2.2 = 0 then (if bt221.2.1 < (l0.length : Int) then (some (([] : List Int), 0, 13)) else ((r04_Cells.f k (wrap64 (rd l0 0)) bt221.1 a1).bind fun bt227 => (if bt227.2 = 0 then (some (bt227.1, wrap64 (rd l0 0), 0)) else (some (([] : List Int), 0, bt227.2))))) else (some (([] : List Int), 0, bt221.2.2))))) else (none))) = some (r1, r2, r3) := by rw [if_pos rfl] at H; exact H
  clear H
  have H := H1
  clear H1
  by_cases c6 : (l0.length : Int) = 0
  ·rw [if_pos c6] at H
   have c6b0 : ((l0.length : Int) == 0) = true := beq_iff_eq.mpr c6
   have c6b1 : ((l0.length : Int) != 0) = false := bne_eq_false_iff_eq.mpr c6
   clear c6
   simp only [Option.some.injEq, Prod.mk.injEq] at H
   obtain ⟨rfl, rfl, rfl⟩ := H
   go_enter Tryz.func32, Tryz.ntmps32
   go_wp2_with (first | (go_at_call 56; (with_reducible refine (r06_Right.calls a1 a2 true _ A4.out).mono ?_); rintro e w' ⟨rfl, ⟨nd, rfl⟩⟩; (try first | exact ⟨rfl, _, World.drewN_drewN _ _ _⟩ | exact ⟨rfl, _, Eq.trans (World.drewN_drewN _ _ _) (congrArg (World.drewN _) (Nat.add_assoc _ _ _))⟩)))
   repeat (go_quiet (first | (go_at_call 56; (with_reducible refine (r06_Right.calls a1 a2 true _ A4.out).mono ?_); rintro e w' ⟨rfl, ⟨nd, rfl⟩⟩; (try first | exact ⟨rfl, _, World.drewN_drewN _ _ _⟩ | exact ⟨rfl, _, Eq.trans (World.drewN_drewN _ _ _) (congrArg (World.drewN _) (Nat.add_assoc _ _ _))⟩))); try go_wp2_with (first | (go_at_call 56; (with_reducible refine (r06_Right.calls a1 a2 true _ A4.out).mono ?_); rintro e w' ⟨rfl, ⟨nd, rfl⟩⟩; (try first | exact ⟨rfl, _, World.drewN_drewN _ _ _⟩ | exact ⟨rfl, _, Eq.trans (World.drewN_drewN _ _ _) (congrArg (World.drewN _) (Nat.add_assoc _ _ _))⟩))))
   go_ret3
   exact ⟨_, by first | rfl | (simp [errW_none, errW_some] <;> rfl) | (simp [*, errW_none, errW_some] <;> rfl), by first | exact Kd.R_nil _ _ _ _ _ | exact Kd.N_nil _ _ _ _ _ | exact Kd.V_nil _ _ _ _ _ | exact Kd.Q_nil _ _ _ _ _ | exact Kd.S_nil _ _ _ _ _, by repeat (first | (with_reducible first | exact HB.out | apply bwA | apply bwN | apply bw1) | exact HB.out)⟩
  ·rw [if_neg c6] at H
   have c6b0 : ((l0.length : Int) == 0) = false := beq_eq_false_iff_ne.mpr c6
   have c6b1 : ((l0.length : Int) != 0) = true := bne_iff_ne.mpr c6
   have c6b2 : ¬ (l0 = []) := fun h_ => c6 (by rw [h_]; rfl)
   by_cases c7 : 0 < (l0.length : Int)
   ·rw [if_pos c7] at H
    have c7b0 : decide (0 < (l0.length : Int)) = true := decide_eq_true c7
    have c7b1 : decide (0 < l0.length) = true := decide_eq_true (by omega)
    clear c7
    by_cases c8 : (rd l0 0) > 2
    ·rw [if_pos c8] at H
     have c8b0 : decide (2 < (rd l0 0)) = true := decide_eq_true c8
     clear c8
     simp only [Option.some.injEq, Prod.mk.injEq] at H
     obtain ⟨rfl, rfl, rfl⟩ := H
     go_enter Tryz.func32, Tryz.ntmps32
     go_wp2_with (first | (go_at_call 56; (with_reducible refine (r06_Right.calls a1 a2 true _ A4.out).mono ?_); rintro e w' ⟨rfl, ⟨nd, rfl⟩⟩; (try first | exact ⟨rfl, _, World.drewN_drewN _ _ _⟩ | exact ⟨rfl, _, Eq.trans (World.drewN_drewN _ _ _) (congrArg (World.drewN _) (Nat.add_assoc _ _ _))⟩); have p220 : 0 ≤ (0 : Int) := (by omega); have q220 : 0 < (l0.length : Int) := of_decide_eq_true (by first | (with_reducible assumption) | assumption); obtain ⟨ad220, e220, hx220_0⟩ := Kd.at_int HR0.out 0 p220 q220; cases e220; have qi220 : (0 < l0.length) = True := eq_true (by omega); (try rw [show ((0 : Int)).toNat = 0 from rfl] at hx220_0); (try rw [Addr.add_zero'] at hx220_0); replace p220 := eq_true p220; replace q220 := eq_true q220))
     repeat (go_quiet (first | (go_at_call 56; (with_reducible refine (r06_Right.calls a1 a2 true _ A4.out).mono ?_); rintro e w' ⟨rfl, ⟨nd, rfl⟩⟩; (try first | exact ⟨rfl, _, World.drewN_drewN _ _ _⟩ | exact ⟨rfl, _, Eq.trans (World.drewN_drewN _ _ _) (congrArg (World.drewN _) (Nat.add_assoc _ _ _))⟩); have p220 : 0 ≤ (0 : Int) := (by omega); have q220 : 0 < (l0.length : Int) := of_decide_eq_true (by first | (with_reducible assumption) | assumption); obtain ⟨ad220, e220, hx220_0⟩ := Kd.at_int HR0.out 0 p220 q220; cases e220; have qi220 : (0 < l0.length) = True := eq_true (by omega); (try rw [show ((0 : Int)).toNat = 0 from rfl] at hx220_0); (try rw [Addr.add_zero'] at hx220_0); replace p220 := eq_true p220; replace q220 := eq_true q220)); try go_wp2_with (first | (go_at_call 56; (with_reducible refine (r06_Right.calls a1 a2 true _ A4.out).mono ?_); rintro e w' ⟨rfl, ⟨nd, rfl⟩⟩; (try first | exact ⟨rfl, _, World.drewN_drewN _ _ _⟩ | exact ⟨rfl, _, Eq.trans (World.drewN_drewN _ _ _) (congrArg (World.drewN _) (Nat.add_assoc _ _ _))⟩); have p220 : 0 ≤ (0 : Int) := (by omega); have q220 : 0 < (l0.length : Int) := of_decide_eq_true (by first | (with_reducible assumption) | assumption); obtain ⟨ad220, e220, hx220_0⟩ := Kd.at_int HR0.out 0 p220 q220; cases e220; have qi220 : (0 < l0.length) = True := eq_true (by omega); (try rw [show ((0 : Int)).toNat = 0 from rfl] at hx220_0); (try rw [Addr.add_zero'] at hx220_0); replace p220 := eq_true p220; replace q220 := eq_true q220)))
     go_ret3
     exact ⟨_, by first | rfl | (simp [errW_none, errW_some] <;> rfl) | (simp [*, errW_none, errW_some] <;> rfl), by first | exact Kd.R_nil _ _ _ _ _ | exact Kd.N_nil _ _ _ _ _ | exact Kd.V_nil _ _ _ _ _ | exact Kd.Q_nil _ _ _ _ _ | exact Kd.S_nil _ _ _ _ _, by repeat (first | (with_reducible first | exact HB.out | apply bwA | apply bwN | apply bw1) | exact HB.out)⟩
    ·rw [if_neg c8] at H
     have c8b0 : decide (2 < (rd l0 0)) = false := decide_eq_false c8
     clear c8
     replace H := Option.bind_eq_some_iff.mp H
     obtain ⟨⟨t221, t222, t223⟩, A90, H⟩ := H
     replace H : (if t223 = 0 then (if t222 < (l0.length : Int) then (some (([] : List Int), 0, 13)) else ((r04_Cells.f k (wrap64 (rd l0 0)) t221 a1).bind fun bt227 => (if bt227.2 = 0 then (some (bt227.1, wrap64 (rd l0 0), 0)) else (some (([] : List Int), 0, bt227.2))))) else (some (([] : List Int), 0, t223))) = some (r1, r2, r3) := H
     have A9 := Ad.mk A90
     clear A90
     by_cases c10 : t223 = 0
     ·rw [if_pos c10] at H
      have c10b0 : (t223 == 0) = true := beq_iff_eq.mpr c10
      have c10b1 : (t223 != 0) = false := bne_eq_false_iff_eq.mpr c10
      clear c10
      by_cases c11 : t222 < (l0.length : Int)
      ·rw [if_pos c11] at H
       have c11b0 : decide (t222 < (l0.length : Int)) = true := decide_eq_true c11
       clear c11
       simp only [Option.some.injEq, Prod.mk.injEq] at H
       obtain ⟨rfl, rfl, rfl⟩ := H
       go_enter Tryz.func32, Tryz.ntmps32
       go_wp2_with (first | (go_at_call 56; (with_reducible refine (r06_Right.calls a1 a2 true _ A4.out).mono ?_); rintro e w' ⟨rfl, ⟨nd, rfl⟩⟩; (try first | exact ⟨rfl, _, World.drewN_drewN _ _ _⟩ | exact ⟨rfl, _, Eq.trans (World.drewN_drewN _ _ _) (congrArg (World.drewN _) (Nat.add_assoc _ _ _))⟩); have p220 : 0 ≤ (0 : Int) := (by omega); have q220 : 0 < (l0.length : Int) := of_decide_eq_true (by first | (with_reducible assumption) | assumption); obtain ⟨ad220, e220, hx220_0⟩ := Kd.at_int HR0.out 0 p220 q220; cases e220; have qi220 : (0 < l0.length) = True := eq_true (by omega); (try rw [show ((0 : Int)).toNat = 0 from rfl] at hx220_0); (try rw [Addr.add_zero'] at hx220_0); replace p220 := eq_true p220; replace q220 := eq_true q220) | (go_at_call 57; (with_reducible refine (r05_Get.calls k _ _ l0 1 (wrap64 (a1 * a2)) t221 t222 t223 _ ?side1 ?side2 A9.out).mono ?_); (case side1 => repeat (first | exact HR0.out | (with_reducible refine Kd.C_alloc ?_ _) | (with_reducible refine Kd.C_drewN ?_ _) | (with_reducible refine Kd.C_drew ?_))); (case side2 => exact HC0.out); rintro e w12 ⟨v224, rfl, ho0, hb⟩; have n0_ := Ad.mk (Kd.R_lower ho0 (below_size (by repeat (first | (with_reducible first | exact HB.out | apply bwA | apply bwN | apply bw1) | exact HB.out)))); have n1_ := Ad.mk (below_step (by repeat (first | (with_reducible first | exact HB.out | apply bwA | apply bwN | apply bw1) | exact HB.out)) hb); clear HB; have HO225 := n0_; have HB := n1_; clear n0_ n1_; (try clear hb); (try clear hb2); (try clear hk); (try clear hi); (try clear ho0)))
       repeat (go_quiet (first | (go_at_call 56; (with_reducible refine (r06_Right.calls a1 a2 true _ A4.out).mono ?_); rintro e w' ⟨rfl, ⟨nd, rfl⟩⟩; (try first | exact ⟨rfl, _, World.drewN_drewN _ _ _⟩ | exact ⟨rfl, _, Eq.trans (World.drewN_drewN _ _ _) (congrArg (World.drewN _) (Nat.add_assoc _ _ _))⟩); have p220 : 0 ≤ (0 : Int) := (by omega); have q220 : 0 < (l0.length : Int) := of_decide_eq_true (by first | (with_reducible assumption) | assumption); obtain ⟨ad220, e220, hx220_0⟩ := Kd.at_int HR0.out 0 p220 q220; cases e220; have qi220 : (0 < l0.length) = True := eq_true (by omega); (try rw [show ((0 : Int)).toNat = 0 from rfl] at hx220_0); (try rw [Addr.add_zero'] at hx220_0); replace p220 := eq_true p220; replace q220 := eq_true q220) | (go_at_call 57; (with_reducible refine (r05_Get.calls k _ _ l0 1 (wrap64 (a1 * a2)) t221 t222 t223 _ ?side1 ?side2 A9.out).mono ?_); (case side1 => repeat (first | exact HR0.out | (with_reducible refine Kd.C_alloc ?_ _) | (with_reducible refine Kd.C_drewN ?_ _) | (with_reducible refine Kd.C_drew ?_))); (case side2 => exact HC0.out); rintro e w12 ⟨v224, rfl, ho0, hb⟩; have n0_ := Ad.mk (Kd.R_lower ho0 (below_size (by repeat (first | (with_reducible first | exact HB.out | apply bwA | apply bwN | apply bw1) | exact HB.out)))); have n1_ := Ad.mk (below_step (by repeat (first | (with_reducible first | exact HB.out | apply bwA | apply bwN | apply bw1) | exact HB.out)) hb); clear HB; have HO225 := n0_; have HB := n1_; clear n0_ n1_; (try clear hb); (try clear hb2); (try clear hk); (try clear hi); (try clear ho0))); try go_wp2_with (first | (go_at_call 56; (with_reducible refine (r06_Right.calls a1 a2 true _ A4.out).mono ?_); rintro e w' ⟨rfl, ⟨nd, rfl⟩⟩; (try first | exact ⟨rfl, _, World.drewN_drewN _ _ _⟩ | exact ⟨rfl, _, Eq.trans (World.drewN_drewN _ _ _) (congrArg (World.drewN _) (Nat.add_assoc _ _ _))⟩); have p220 : 0 ≤ (0 : Int) := (by omega); have q220 : 0 < (l0.length : Int) := of_decide_eq_true (by first | (with_reducible assumption) | assumption); obtain ⟨ad220, e220, hx220_0⟩ := Kd.at_int HR0.out 0 p220 q220; cases e220; have qi220 : (0 < l0.length) = True := eq_true (by omega); (try rw [show ((0 : Int)).toNat = 0 from rfl] at hx220_0); (try rw [Addr.add_zero'] at hx220_0); replace p220 := eq_true p220; replace q220 := eq_true q220) | (go_at_call 57; (with_reducible refine (r05_Get.calls k _ _ l0 1 (wrap64 (a1 * a2)) t221 t222 t223 _ ?side1 ?side2 A9.out).mono ?_); (case side1 => repeat (first | exact HR0.out | (with_reducible refine Kd.C_alloc ?_ _) | (with_reducible refine Kd.C_drewN ?_ _) | (with_reducible refine Kd.C_drew ?_))); (case side2 => exact HC0.out); rintro e w12 ⟨v224, rfl, ho0, hb⟩; have n0_ := Ad.mk (Kd.R_lower ho0 (below_size (by repeat (first | (with_reducible first | exact HB.out | apply bwA | apply bwN | apply bw1) | exact HB.out)))); have n1_ := Ad.mk (below_step (by repeat (first | (with_reducible first | exact HB.out | apply bwA | apply bwN | apply bw1) | exact HB.out)) hb); clear HB; have HO225 := n0_; have HB := n1_; clear n0_ n1_; (try clear hb); (try clear hb2); (try clear hk); (try clear hi); (try clear ho0))))
       go_ret3
       exact ⟨_, by first | rfl | (simp [errW_none, errW_some] <;> rfl) | (simp [*, errW_none, errW_some] <;> rfl), by first | exact Kd.R_nil _ _ _ _ _ | exact Kd.N_nil _ _ _ _ _ | exact Kd.V_nil _ _ _ _ _ | exact Kd.Q_nil _ _ _ _ _ | exact Kd.S_nil _ _ _ _ _, by repeat (first | (with_reducible first | exact HB.out | apply bwA | apply bwN | apply bw1) | exact HB.out)⟩
      ·rw [if_neg c11] at H
       have c11b0 : decide (t222 < (l0.length : Int)) = false := decide_eq_false c11
       clear c11
       replace H := Option.bind_eq_some_iff.mp H
       obtain ⟨⟨t227, t228⟩, A130, H⟩ := H
       replace H : (if t228 = 0 then (some (t227, wrap64 (rd l0 0), 0)) else (some (([] : List Int), 0, t228))) = some (r1, r2, r3) := H
       have A13 := Ad.mk A130
       clear A130
       by_cases c14 : t228 = 0
       ·rw [if_pos c14] at H
        have c14b0 : (t228 == 0) = true := beq_iff_eq.mpr c14
        have c14b1 : (t228 != 0) = false := bne_eq_false_iff_eq.mpr c14
        clear c14
        simp only [Option.some.injEq, Prod.mk.injEq] at H
        obtain ⟨rfl, rfl, rfl⟩ := H
        go_enter Tryz.func32, Tryz.ntmps32
        go_wp2_with (first | (go_at_call 56; (with_reducible refine (r06_Right.calls a1 a2 true _ A4.out).mono ?_); rintro e w' ⟨rfl, ⟨nd, rfl⟩⟩; (try first | exact ⟨rfl, _, World.drewN_drewN _ _ _⟩ | exact ⟨rfl, _, Eq.trans (World.drewN_drewN _ _ _) (congrArg (World.drewN _) (Nat.add_assoc _ _ _))⟩); have p220 : 0 ≤ (0 : Int) := (by omega); have q220 : 0 < (l0.length : Int) := of_decide_eq_true (by first | (with_reducible assumption) | assumption); obtain ⟨ad220, e220, hx220_0⟩ := Kd.at_int HR0.out 0 p220 q220; cases e220; have qi220 : (0 < l0.length) = True := eq_true (by omega); (try rw [show ((0 : Int)).toNat = 0 from rfl] at hx220_0); (try rw [Addr.add_zero'] at hx220_0); replace p220 := eq_true p220; replace q220 := eq_true q220) | (go_at_call 57; (with_reducible refine (r05_Get.calls k _ _ l0 1 (wrap64 (a1 * a2)) t221 t222 t223 _ ?side1 ?side2 A9.out).mono ?_); (case side1 => repeat (first | exact HR0.out | (with_reducible refine Kd.C_alloc ?_ _) | (with_reducible refine Kd.C_drewN ?_ _) | (with_reducible refine Kd.C_drew ?_))); (case side2 => exact HC0.out); rintro e w15 ⟨v224, rfl, ho0, hb⟩; have n0_ := Ad.mk (Kd.R_lower ho0 (below_size (by repeat (first | (with_reducible first | exact HB.out | apply bwA | apply bwN | apply bw1) | exact HB.out)))); have n1_ := Ad.mk (below_step (by repeat (first | (with_reducible first | exact HB.out | apply bwA | apply bwN | apply bw1) | exact HB.out)) hb); clear HB; have HO225 := n0_; have HB := n1_; clear n0_ n1_; (try clear hb); (try clear hb2); (try clear hk); (try clear hi); (try clear ho0); have p226 : 0 ≤ (0 : Int) := (by omega); have q226 : 0 < (l0.length : Int) := of_decide_eq_true (by first | (with_reducible assumption) | assumption); obtain ⟨ad226, e226, hx226_0⟩ := Kd.at_int HR0.out 0 p226 q226; obtain rfl : ad220 = ad226 := (by injection e226); have qi226 : (0 < l0.length) = True := eq_true (by omega); (try rw [show ((0 : Int)).toNat = 0 from rfl] at hx226_0); (try rw [Addr.add_zero'] at hx226_0); replace hx226_0 := (HB.out.cell (World.block_lt_of_cell? w _ hx226_0)).trans hx226_0; replace p226 := eq_true p226; replace q226 := eq_true q226; obtain ⟨Ao16, co16, eo16⟩ := Kd.R_slice HO225.out; subst eo16) | (go_at_call 58; (with_reducible refine (r04_Cells.calls k (wrap64 (rd l0 0)) _ _ t221 a1 t227 t228 _ ?side1 ?side2 A13.out).mono ?_); (case side1 => repeat (first | exact (Kd.R_reads' HO225.out).2.2 | (with_reducible refine Kd.C_alloc ?_ _) | (with_reducible refine Kd.C_drewN ?_ _) | (with_reducible refine Kd.C_drew ?_))); (case side2 => exact (Kd.R_reads' HO225.out).2.1); rintro e w17 ⟨v229, rfl, ho0, hb⟩; have n0_ := Ad.mk (Kd.R_elder' (by (with_reducible repeat (first | apply Kd.R_alloc | apply Kd.R_drewN | apply Kd.R_drew)); exact HO225.out) (Kd.R_base ho0) hb); have n1_ := Ad.mk (Kd.R_lower (Kd.R_new' ho0 (Kd.R_lt (by (with_reducible repeat (first | apply Kd.R_alloc | apply Kd.R_drewN | apply Kd.R_drew)); exact HO225.out))) (below_size (by repeat (first | (with_reducible first | exact HB.out | apply bwA | apply bwN | apply bw1) | exact HB.out)))); have n2_ := Ad.mk (below_step (by repeat (first | (with_reducible first | exact HB.out | apply bwA | apply bwN | apply bw1) | exact HB.out)) hb); clear HO225; clear HB; have HO225 := n0_; have HO230 := n1_; have HB := n2_; clear n0_ n1_ n2_; (try clear hb); (try clear hb2); (try clear hk); (try clear hi); (try clear ho0); have p231 : 0 ≤ (0 : Int) := (by omega); have q231 : 0 < (l0.length : Int) := of_decide_eq_true (by first | (with_reducible assumption) | assumption); obtain ⟨ad231, e231, hx231_0⟩ := Kd.at_int HR0.out 0 p231 q231; obtain rfl : ad220 = ad231 := (by injection e231); have qi231 : (0 < l0.length) = True := eq_true (by omega); (try rw [show ((0 : Int)).toNat = 0 from rfl] at hx231_0); (try rw [Addr.add_zero'] at hx231_0); replace hx231_0 := (HB.out.cell (World.block_lt_of_cell? w _ hx231_0)).trans hx231_0; replace p231 := eq_true p231; replace q231 := eq_true q231))
        repeat (go_quiet (first | (go_at_call 56; (with_reducible refine (r06_Right.calls a1 a2 true _ A4.out).mono ?_); rintro e w' ⟨rfl, ⟨nd, rfl⟩⟩; (try first | exact ⟨rfl, _, World.drewN_drewN _ _ _⟩ | exact ⟨rfl, _, Eq.trans (World.drewN_drewN _ _ _) (congrArg (World.drewN _) (Nat.add_assoc _ _ _))⟩); have p220 : 0 ≤ (0 : Int) := (by omega); have q220 : 0 < (l0.length : Int) := of_decide_eq_true (by first | (with_reducible assumption) | assumption); obtain ⟨ad220, e220, hx220_0⟩ := Kd.at_int HR0.out 0 p220 q220; cases e220; have qi220 : (0 < l0.length) = True := eq_true (by omega); (try rw [show ((0 : Int)).toNat = 0 from rfl] at hx220_0); (try rw [Addr.add_zero'] at hx220_0); replace p220 := eq_true p220; replace q220 := eq_true q220) | (go_at_call 57; (with_reducible refine (r05_Get.calls k _ _ l0 1 (wrap64 (a1 * a2)) t221 t222 t223 _ ?side1 ?side2 A9.out).mono ?_); (case side1 => repeat (first | exact HR0.out | (with_reducible refine Kd.C_alloc ?_ _) | (with_reducible refine Kd.C_drewN ?_ _) | (with_reducible refine Kd.C_drew ?_))); (case side2 => exact HC0.out); rintro e w15 ⟨v224, rfl, ho0, hb⟩; have n0_ := Ad.mk (Kd.R_lower ho0 (below_size (by repeat (first | (with_reducible first | exact HB.out | apply bwA | apply bwN | apply bw1) | exact HB.out)))); have n1_ := Ad.mk (below_step (by repeat (first | (with_reducible first | exact HB.out | apply bwA | apply bwN | apply bw1) | exact HB.out)) hb); clear HB; have HO225 := n0_; have HB := n1_; clear n0_ n1_; (try clear hb); (try clear hb2); (try clear hk); (try clear hi); (try clear ho0); have p226 : 0 ≤ (0 : Int) := (by omega); have q226 : 0 < (l0.length : Int) := of_decide_eq_true (by first | (with_reducible assumption) | assumption); obtain ⟨ad226, e226, hx226_0⟩ := Kd.at_int HR0.out 0 p226 q226; obtain rfl : ad220 = ad226 := (by injection e226); have qi226 : (0 < l0.length) = True := eq_true (by omega); (try rw [show ((0 : Int)).toNat = 0 from rfl] at hx226_0); (try rw [Addr.add_zero'] at hx226_0); replace hx226_0 := (HB.out.cell (World.block_lt_of_cell? w _ hx226_0)).trans hx226_0; replace p226 := eq_true p226; replace q226 := eq_true q226; obtain ⟨Ao16, co16, eo16⟩ := Kd.R_slice HO225.out; subst eo16) | (go_at_call 58; (with_reducible refine (r04_Cells.calls k (wrap64 (rd l0 0)) _ _ t221 a1 t227 t228 _ ?side1 ?side2 A13.out).mono ?_); (case side1 => repeat (first | exact (Kd.R_reads' HO225.out).2.2 | (with_reducible refine Kd.C_alloc ?_ _) | (with_reducible refine Kd.C_drewN ?_ _) | (with_reducible refine Kd.C_drew ?_))); (case side2 => exact (Kd.R_reads' HO225.out).2.1); rintro e w17 ⟨v229, rfl, ho0, hb⟩; have n0_ := Ad.mk (Kd.R_elder' (by (with_reducible repeat (first | apply Kd.R_alloc | apply Kd.R_drewN | apply Kd.R_drew)); exact HO225.out) (Kd.R_base ho0) hb); have n1_ := Ad.mk (Kd.R_lower (Kd.R_new' ho0 (Kd.R_lt (by (with_reducible repeat (first | apply Kd.R_alloc | apply Kd.R_drewN | apply Kd.R_drew)); exact HO225.out))) (below_size (by repeat (first | (with_reducible first | exact HB.out | apply bwA | apply bwN | apply bw1) | exact HB.out)))); have n2_ := Ad.mk (below_step (by repeat (first | (with_reducible first | exact HB.out | apply bwA | apply bwN | apply bw1) | exact HB.out)) hb); clear HO225; clear HB; have HO225 := n0_; have HO230 := n1_; have HB := n2_; clear n0_ n1_ n2_; (try clear hb); (try clear hb2); (try clear hk); (try clear hi); (try clear ho0); have p231 : 0 ≤ (0 : Int) := (by omega); have q231 : 0 < (l0.length : Int) := of_decide_eq_true (by first | (with_reducible assumption) | assumption); obtain ⟨ad231, e231, hx231_0⟩ := Kd.at_int HR0.out 0 p231 q231; obtain rfl : ad220 = ad231 := (by injection e231); have qi231 : (0 < l0.length) = True := eq_true (by omega); (try rw [show ((0 : Int)).toNat = 0 from rfl] at hx231_0); (try rw [Addr.add_zero'] at hx231_0); replace hx231_0 := (HB.out.cell (World.block_lt_of_cell? w _ hx231_0)).trans hx231_0; replace p231 := eq_true p231; replace q231 := eq_true q231)); try go_wp2_with (first | (go_at_call 56; (with_reducible refine (r06_Right.calls a1 a2 true _ A4.out).mono ?_); rintro e w' ⟨rfl, ⟨nd, rfl⟩⟩; (try first | exact ⟨rfl, _, World.drewN_drewN _ _ _⟩ | exact ⟨rfl, _, Eq.trans (World.drewN_drewN _ _ _) (congrArg (World.drewN _) (Nat.add_assoc _ _ _))⟩); have p220 : 0 ≤ (0 : Int) := (by omega); have q220 : 0 < (l0.length : Int) := of_decide_eq_true (by first | (with_reducible assumption) | assumption); obtain ⟨ad220, e220, hx220_0⟩ := Kd.at_int HR0.out 0 p220 q220; cases e220; have qi220 : (0 < l0.length) = True := eq_true (by omega); (try rw [show ((0 : Int)).toNat = 0 from rfl] at hx220_0); (try rw [Addr.add_zero'] at hx220_0); replace p220 := eq_true p220; replace q220 := eq_true q220) | (go_at_call 57; (with_reducible refine (r05_Get.calls k _ _ l0 1 (wrap64 (a1 * a2)) t221 t222 t223 _ ?side1 ?side2 A9.out).mono ?_); (case side1 => repeat (first | exact HR0.out | (with_reducible refine Kd.C_alloc ?_ _) | (with_reducible refine Kd.C_drewN ?_ _) | (with_reducible refine Kd.C_drew ?_))); (case side2 => exact HC0.out); rintro e w15 ⟨v224, rfl, ho0, hb⟩; have n0_ := Ad.mk (Kd.R_lower ho0 (below_size (by repeat (first | (with_reducible first | exact HB.out | apply bwA | apply bwN | apply bw1) | exact HB.out)))); have n1_ := Ad.mk (below_step (by repeat (first | (with_reducible first | exact HB.out | apply bwA | apply bwN | apply bw1) | exact HB.out)) hb); clear HB; have HO225 := n0_; have HB := n1_; clear n0_ n1_; (try clear hb); (try clear hb2); (try clear hk); (try clear hi); (try clear ho0); have p226 : 0 ≤ (0 : Int) := (by omega); have q226 : 0 < (l0.length : Int) := of_decide_eq_true (by first | (with_reducible assumption) | assumption); obtain ⟨ad226, e226, hx226_0⟩ := Kd.at_int HR0.out 0 p226 q226; obtain rfl : ad220 = ad226 := (by injection e226); have qi226 : (0 < l0.length) = True := eq_true (by omega); (try rw [show ((0 : Int)).toNat = 0 from rfl] at hx226_0); (try rw [Addr.add_zero'] at hx226_0); replace hx226_0 := (HB.out.cell (World.block_lt_of_cell? w _ hx226_0)).trans hx226_0; replace p226 := eq_true p226; replace q226 := eq_true q226; obtain ⟨Ao16, co16, eo16⟩ := Kd.R_slice HO225.out; subst eo16) | (go_at_call 58; (with_reducible refine (r04_Cells.calls k (wrap64 (rd l0 0)) _ _ t221 a1 t227 t228 _ ?side1 ?side2 A13.out).mono ?_); (case side1 => repeat (first | exact (Kd.R_reads' HO225.out).2.2 | (with_reducible refine Kd.C_alloc ?_ _) | (with_reducible refine Kd.C_drewN ?_ _) | (with_reducible refine Kd.C_drew ?_))); (case side2 => exact (Kd.R_reads' HO225.out).2.1); rintro e w17 ⟨v229, rfl, ho0, hb⟩; have n0_ := Ad.mk (Kd.R_elder' (by (with_reducible repeat (first | apply Kd.R_alloc | apply Kd.R_drewN | apply Kd.R_drew)); exact HO225.out) (Kd.R_base ho0) hb); have n1_ := Ad.mk (Kd.R_lower (Kd.R_new' ho0 (Kd.R_lt (by (with_reducible repeat (first | apply Kd.R_alloc | apply Kd.R_drewN | apply Kd.R_drew)); exact HO225.out))) (below_size (by repeat (first | (with_reducible first | exact HB.out | apply bwA | apply bwN | apply bw1) | exact HB.out)))); have n2_ := Ad.mk (below_step (by repeat (first | (with_reducible first | exact HB.out | apply bwA | apply bwN | apply bw1) | exact HB.out)) hb); clear HO225; clear HB; have HO225 := n0_; have HO230 := n1_; have HB := n2_; clear n0_ n1_ n2_; (try clear hb); (try clear hb2); (try clear hk); (try clear hi); (try clear ho0); have p231 : 0 ≤ (0 : Int) := (by omega); have q231 : 0 < (l0.length : Int) := of_decide_eq_true (by first | (with_reducible assumption) | assumption); obtain ⟨ad231, e231, hx231_0⟩ := Kd.at_int HR0.out 0 p231 q231; obtain rfl : ad220 = ad231 := (by injection e231); have qi231 : (0 < l0.length) = True := eq_true (by omega); (try rw [show ((0 : Int)).toNat = 0 from rfl] at hx231_0); (try rw [Addr.add_zero'] at hx231_0); replace hx231_0 := (HB.out.cell (World.block_lt_of_cell? w _ hx231_0)).trans hx231_0; replace p231 := eq_true p231; replace q231 := eq_true q231)))
        go_ret3
        exact ⟨_, by first | rfl | (simp [errW_none, errW_some] <;> rfl) | (simp [*, errW_none, errW_some] <;> rfl), by (with_reducible repeat (first | apply Kd.R_alloc | apply Kd.R_drewN | apply Kd.R_drew)); exact Kd.R_mono HO230.out (fun _ hk => trivial), by repeat (first | (with_reducible first | exact HB.out | apply bwA | apply bwN | apply bw1) | exact HB.out)⟩
       ·rw [if_neg c14] at H
        have c14b0 : (t228 == 0) = false := beq_eq_false_iff_ne.mpr c14
        have c14b1 : (t228 != 0) = true := bne_iff_ne.mpr c14
        simp only [Option.some.injEq, Prod.mk.injEq] at H
        obtain ⟨rfl, rfl, rfl⟩ := H
        go_enter Tryz.func32, Tryz.ntmps32
        go_wp2_with (first | (go_at_call 56; (with_reducible refine (r06_Right.calls a1 a2 true _ A4.out).mono ?_); rintro e w' ⟨rfl, ⟨nd, rfl⟩⟩; (try first | exact ⟨rfl, _, World.drewN_drewN _ _ _⟩ | exact ⟨rfl, _, Eq.trans (World.drewN_drewN _ _ _) (congrArg (World.drewN _) (Nat.add_assoc _ _ _))⟩); have p220 : 0 ≤ (0 : Int) := (by omega); have q220 : 0 < (l0.length : Int) := of_decide_eq_true (by first | (with_reducible assumption) | assumption); obtain ⟨ad220, e220, hx220_0⟩ := Kd.at_int HR0.out 0 p220 q220; cases e220; have qi220 : (0 < l0.length) = True := eq_true (by omega); (try rw [show ((0 : Int)).toNat = 0 from rfl] at hx220_0); (try rw [Addr.add_zero'] at hx220_0); replace p220 := eq_true p220; replace q220 := eq_true q220) | (go_at_call 57; (with_reducible refine (r05_Get.calls k _ _ l0 1 (wrap64 (a1 * a2)) t221 t222 t223 _ ?side1 ?side2 A9.out).mono ?_); (case side1 => repeat (first | exact HR0.out | (with_reducible refine Kd.C_alloc ?_ _) | (with_reducible refine Kd.C_drewN ?_ _) | (with_reducible refine Kd.C_drew ?_))); (case side2 => exact HC0.out); rintro e w18 ⟨v224, rfl, ho0, hb⟩; have n0_ := Ad.mk (Kd.R_lower ho0 (below_size (by repeat (first | (with_reducible first | exact HB.out | apply bwA | apply bwN | apply bw1) | exact HB.out)))); have n1_ := Ad.mk (below_step (by repeat (first | (with_reducible first | exact HB.out | apply bwA | apply bwN | apply bw1) | exact HB.out)) hb); clear HB; have HO225 := n0_; have HB := n1_; clear n0_ n1_; (try clear hb); (try clear hb2); (try clear hk); (try clear hi); (try clear ho0); have p226 : 0 ≤ (0 : Int) := (by omega); have q226 : 0 < (l0.length : Int) := of_decide_eq_true (by first | (with_reducible assumption) | assumption); obtain ⟨ad226, e226, hx226_0⟩ := Kd.at_int HR0.out 0 p226 q226; obtain rfl : ad220 = ad226 := (by injection e226); have qi226 : (0 < l0.length) = True := eq_true (by omega); (try rw [show ((0 : Int)).toNat = 0 from rfl] at hx226_0); (try rw [Addr.add_zero'] at hx226_0); replace hx226_0 := (HB.out.cell (World.block_lt_of_cell? w _ hx226_0)).trans hx226_0; replace p226 := eq_true p226; replace q226 := eq_true q226; obtain ⟨Ao19, co19, eo19⟩ := Kd.R_slice HO225.out; subst eo19) | (go_at_call 58; (with_reducible refine (r04_Cells.calls k (wrap64 (rd l0 0)) _ _ t221 a1 t227 t228 _ ?side1 ?side2 A13.out).mono ?_); (case side1 => repeat (first | exact (Kd.R_reads' HO225.out).2.2 | (with_reducible refine Kd.C_alloc ?_ _) | (with_reducible refine Kd.C_drewN ?_ _) | (with_reducible refine Kd.C_drew ?_))); (case side2 => exact (Kd.R_reads' HO225.out).2.1); rintro e w20 ⟨v229, rfl, ho0, hb⟩; have n0_ := Ad.mk (Kd.R_elder' (by (with_reducible repeat (first | apply Kd.R_alloc | apply Kd.R_drewN | apply Kd.R_drew)); exact HO225.out) (Kd.R_base ho0) hb); have n1_ := Ad.mk (Kd.R_lower (Kd.R_new' ho0 (Kd.R_lt (by (with_reducible repeat (first | apply Kd.R_alloc | apply Kd.R_drewN | apply Kd.R_drew)); exact HO225.out))) (below_size (by repeat (first | (with_reducible first | exact HB.out | apply bwA | apply bwN | apply bw1) | exact HB.out)))); have n2_ := Ad.mk (below_step (by repeat (first | (with_reducible first | exact HB.out | apply bwA | apply bwN | apply bw1) | exact HB.out)) hb); clear HO225; clear HB; have HO225 := n0_; have HO230 := n1_; have HB := n2_; clear n0_ n1_ n2_; (try clear hb); (try clear hb2); (try clear hk); (try clear hi); (try clear ho0)))
        repeat (go_quiet (first | (go_at_call 56; (with_reducible refine (r06_Right.calls a1 a2 true _ A4.out).mono ?_); rintro e w' ⟨rfl, ⟨nd, rfl⟩⟩; (try first | exact ⟨rfl, _, World.drewN_drewN _ _ _⟩ | exact ⟨rfl, _, Eq.trans (World.drewN_drewN _ _ _) (congrArg (World.drewN _) (Nat.add_assoc _ _ _))⟩); have p220 : 0 ≤ (0 : Int) := (by omega); have q220 : 0 < (l0.length : Int) := of_decide_eq_true (by first | (with_reducible assumption) | assumption); obtain ⟨ad220, e220, hx220_0⟩ := Kd.at_int HR0.out 0 p220 q220; cases e220; have qi220 : (0 < l0.length) = True := eq_true (by omega); (try rw [show ((0 : Int)).toNat = 0 from rfl] at hx220_0); (try rw [Addr.add_zero'] at hx220_0); replace p220 := eq_true p220; replace q220 := eq_true q220) | (go_at_call 57; (with_reducible refine (r05_Get.calls k _ _ l0 1 (wrap64 (a1 * a2)) t221 t222 t223 _ ?side1 ?side2 A9.out).mono ?_); (case side1 => repeat (first | exact HR0.out | (with_reducible refine Kd.C_alloc ?_ _) | (with_reducible refine Kd.C_drewN ?_ _) | (with_reducible refine Kd.C_drew ?_))); (case side2 => exact HC0.out); rintro e w18 ⟨v224, rfl, ho0, hb⟩; have n0_ := Ad.mk (Kd.R_lower ho0 (below_size (by repeat (first | (with_reducible first | exact HB.out | apply bwA | apply bwN | apply bw1) | exact HB.out)))); have n1_ := Ad.mk (below_step (by repeat (first | (with_reducible first | exact HB.out | apply bwA | apply bwN | apply bw1) | exact HB.out)) hb); clear HB; have HO225 := n0_; have HB := n1_; clear n0_ n1_; (try clear hb); (try clear hb2); (try clear hk); (try clear hi); (try clear ho0); have p226 : 0 ≤ (0 : Int) := (by omega); have q226 : 0 < (l0.length : Int) := of_decide_eq_true (by first | (with_reducible assumption) | assumption); obtain ⟨ad226, e226, hx226_0⟩ := Kd.at_int HR0.out 0 p226 q226; obtain rfl : ad220 = ad226 := (by injection e226); have qi226 : (0 < l0.length) = True := eq_true (by omega); (try rw [show ((0 : Int)).toNat = 0 from rfl] at hx226_0); (try rw [Addr.add_zero'] at hx226_0); replace hx226_0 := (HB.out.cell (World.block_lt_of_cell? w _ hx226_0)).trans hx226_0; replace p226 := eq_true p226; replace q226 := eq_true q226; obtain ⟨Ao19, co19, eo19⟩ := Kd.R_slice HO225.out; subst eo19) | (go_at_call 58; (with_reducible refine (r04_Cells.calls k (wrap64 (rd l0 0)) _ _ t221 a1 t227 t228 _ ?side1 ?side2 A13.out).mono ?_); (case side1 => repeat (first | exact (Kd.R_reads' HO225.out).2.2 | (with_reducible refine Kd.C_alloc ?_ _) | (with_reducible refine Kd.C_drewN ?_ _) | (with_reducible refine Kd.C_drew ?_))); (case side2 => exact (Kd.R_reads' HO225.out).2.1); rintro e w20 ⟨v229, rfl, ho0, hb⟩; have n0_ := Ad.mk (Kd.R_elder' (by (with_reducible repeat (first | apply Kd.R_alloc | apply Kd.R_drewN | apply Kd.R_drew)); exact HO225.out) (Kd.R_base ho0) hb); have n1_ := Ad.mk (Kd.R_lower (Kd.R_new' ho0 (Kd.R_lt (by (with_reducible repeat (first | apply Kd.R_alloc | apply Kd.R_drewN | apply Kd.R_drew)); exact HO225.out))) (below_size (by repeat (first | (with_reducible first | exact HB.out | apply bwA | apply bwN | apply bw1) | exact HB.out)))); have n2_ := Ad.mk (below_step (by repeat (first | (with_reducible first | exact HB.out | apply bwA | apply bwN | apply bw1) | exact HB.out)) hb); clear HO225; clear HB; have HO225 := n0_; have HO230 := n1_; have HB := n2_; clear n0_ n1_ n2_; (try clear hb); (try clear hb2); (try clear hk); (try clear hi); (try clear ho0))); try go_wp2_with (first | (go_at_call 56; (with_reducible refine (r06_Right.calls a1 a2 true _ A4.out).mono ?_); rintro e w' ⟨rfl, ⟨nd, rfl⟩⟩; (try first | exact ⟨rfl, _, World.drewN_drewN _ _ _⟩ | exact ⟨rfl, _, Eq.trans (World.drewN_drewN _ _ _) (congrArg (World.drewN _) (Nat.add_assoc _ _ _))⟩); have p220 : 0 ≤ (0 : Int) := (by omega); have q220 : 0 < (l0.length : Int) := of_decide_eq_true (by first | (with_reducible assumption) | assumption); obtain ⟨ad220, e220, hx220_0⟩ := Kd.at_int HR0.out 0 p220 q220; cases e220; have qi220 : (0 < l0.length) = True := eq_true (by omega); (try rw [show ((0 : Int)).toNat = 0 from rfl] at hx220_0); (try rw [Addr.add_zero'] at hx220_0); replace p220 := eq_true p220; replace q220 := eq_true q220) | (go_at_call 57; (with_reducible refine (r05_Get.calls k _ _ l0 1 (wrap64 (a1 * a2)) t221 t222 t223 _ ?side1 ?side2 A9.out).mono ?_); (case side1 => repeat (first | exact HR0.out | (with_reducible refine Kd.C_alloc ?_ _) | (with_reducible refine Kd.C_drewN ?_ _) | (with_reducible refine Kd.C_drew ?_))); (case side2 => exact HC0.out); rintro e w18 ⟨v224, rfl, ho0, hb⟩; have n0_ := Ad.mk (Kd.R_lower ho0 (below_size (by repeat (first | (with_reducible first | exact HB.out | apply bwA | apply bwN | apply bw1) | exact HB.out)))); have n1_ := Ad.mk (below_step (by repeat (first | (with_reducible first | exact HB.out | apply bwA | apply bwN | apply bw1) | exact HB.out)) hb); clear HB; have HO225 := n0_; have HB := n1_; clear n0_ n1_; (try clear hb); (try clear hb2); (try clear hk); (try clear hi); (try clear ho0); have p226 : 0 ≤ (0 : Int) := (by omega); have q226 : 0 < (l0.length : Int) := of_decide_eq_true (by first | (with_reducible assumption) | assumption); obtain ⟨ad226, e226, hx226_0⟩ := Kd.at_int HR0.out 0 p226 q226; obtain rfl : ad220 = ad226 := (by injection e226); have qi226 : (0 < l0.length) = True := eq_true (by omega); (try rw [show ((0 : Int)).toNat = 0 from rfl] at hx226_0); (try rw [Addr.add_zero'] at hx226_0); replace hx226_0 := (HB.out.cell (World.block_lt_of_cell? w _ hx226_0)).trans hx226_0; replace p226 := eq_true p226; replace q226 := eq_true q226; obtain ⟨Ao19, co19, eo19⟩ := Kd.R_slice HO225.out; subst eo19) | (go_at_call 58; (with_reducible refine (r04_Cells.calls k (wrap64 (rd l0 0)) _ _ t221 a1 t227 t228 _ ?side1 ?side2 A13.out).mono ?_); (case side1 => repeat (first | exact (Kd.R_reads' HO225.out).2.2 | (with_reducible refine Kd.C_alloc ?_ _) | (with_reducible refine Kd.C_drewN ?_ _) | (with_reducible refine Kd.C_drew ?_))); (case side2 => exact (Kd.R_reads' HO225.out).2.1); rintro e w20 ⟨v229, rfl, ho0, hb⟩; have n0_ := Ad.mk (Kd.R_elder' (by (with_reducible repeat (first | apply Kd.R_alloc | apply Kd.R_drewN | apply Kd.R_drew)); exact HO225.out) (Kd.R_base ho0) hb); have n1_ := Ad.mk (Kd.R_lower (Kd.R_new' ho0 (Kd.R_lt (by (with_reducible repeat (first | apply Kd.R_alloc | apply Kd.R_drewN | apply Kd.R_drew)); exact HO225.out))) (below_size (by repeat (first | (with_reducible first | exact HB.out | apply bwA | apply bwN | apply bw1) | exact HB.out)))); have n2_ := Ad.mk (below_step (by repeat (first | (with_reducible first | exact HB.out | apply bwA | apply bwN | apply bw1) | exact HB.out)) hb); clear HO225; clear HB; have HO225 := n0_; have HO230 := n1_; have HB := n2_; clear n0_ n1_ n2_; (try clear hb); (try clear hb2); (try clear hk); (try clear hi); (try clear ho0))))
        go_ret3
        exact ⟨_, by first | rfl | (simp [errW_none, errW_some] <;> rfl) | (simp [*, errW_none, errW_some] <;> rfl), by first | exact Kd.R_nil _ _ _ _ _ | exact Kd.N_nil _ _ _ _ _ | exact Kd.V_nil _ _ _ _ _ | exact Kd.Q_nil _ _ _ _ _ | exact Kd.S_nil _ _ _ _ _, by repeat (first | (with_reducible first | exact HB.out | apply bwA | apply bwN | apply bw1) | exact HB.out)⟩
     ·rw [if_neg c10] at H
      have c10b0 : (t223 == 0) = false := beq_eq_false_iff_ne.mpr c10
      have c10b1 : (t223 != 0) = true := bne_iff_ne.mpr c10
      simp only [Option.some.injEq, Prod.mk.injEq] at H
      obtain ⟨rfl, rfl, rfl⟩ := H
      go_enter Tryz.func32, Tryz.ntmps32
      go_wp2_with (first | (go_at_call 56; (with_reducible refine (r06_Right.calls a1 a2 true _ A4.out).mono ?_); rintro e w' ⟨rfl, ⟨nd, rfl⟩⟩; (try first | exact ⟨rfl, _, World.drewN_drewN _ _ _⟩ | exact ⟨rfl, _, Eq.trans (World.drewN_drewN _ _ _) (congrArg (World.drewN _) (Nat.add_assoc _ _ _))⟩); have p220 : 0 ≤ (0 : Int) := (by omega); have q220 : 0 < (l0.length : Int) := of_decide_eq_true (by first | (with_reducible assumption) | assumption); obtain ⟨ad220, e220, hx220_0⟩ := Kd.at_int HR0.out 0 p220 q220; cases e220; have qi220 : (0 < l0.length) = True := eq_true (by omega); (try rw [show ((0 : Int)).toNat = 0 from rfl] at hx220_0); (try rw [Addr.add_zero'] at hx220_0); replace p220 := eq_true p220; replace q220 := eq_true q220) | (go_at_call 57; (with_reducible refine (r05_Get.calls k _ _ l0 1 (wrap64 (a1 * a2)) t221 t222 t223 _ ?side1 ?side2 A9.out).mono ?_); (case side1 => repeat (first | exact HR0.out | (with_reducible refine Kd.C_alloc ?_ _) | (with_reducible refine Kd.C_drewN ?_ _) | (with_reducible refine Kd.C_drew ?_))); (case side2 => exact HC0.out); rintro e w21 ⟨v224, rfl, ho0, hb⟩; have n0_ := Ad.mk (Kd.R_lower ho0 (below_size (by repeat (first | (with_reducible first | exact HB.out | apply bwA | apply bwN | apply bw1) | exact HB.out)))); have n1_ := Ad.mk (below_step (by repeat (first | (with_reducible first | exact HB.out | apply bwA | apply bwN | apply bw1) | exact HB.out)) hb); clear HB; have HO225 := n0_; have HB := n1_; clear n0_ n1_; (try clear hb); (try clear hb2); (try clear hk); (try clear hi); (try clear ho0)))
      repeat (go_quiet (first | (go_at_call 56; (with_reducible refine (r06_Right.calls a1 a2 true _ A4.out).mono ?_); rintro e w' ⟨rfl, ⟨nd, rfl⟩⟩; (try first | exact ⟨rfl, _, World.drewN_drewN _ _ _⟩ | exact ⟨rfl, _, Eq.trans (World.drewN_drewN _ _ _) (congrArg (World.drewN _) (Nat.add_assoc _ _ _))⟩); have p220 : 0 ≤ (0 : Int) := (by omega); have q220 : 0 < (l0.length : Int) := of_decide_eq_true (by first | (with_reducible assumption) | assumption); obtain ⟨ad220, e220, hx220_0⟩ := Kd.at_int HR0.out 0 p220 q220; cases e220; have qi220 : (0 < l0.length) = True := eq_true (by omega); (try rw [show ((0 : Int)).toNat = 0 from rfl] at hx220_0); (try rw [Addr.add_zero'] at hx220_0); replace p220 := eq_true p220; replace q220 := eq_true q220) | (go_at_call 57; (with_reducible refine (r05_Get.calls k _ _ l0 1 (wrap64 (a1 * a2)) t221 t222 t223 _ ?side1 ?side2 A9.out).mono ?_); (case side1 => repeat (first | exact HR0.out | (with_reducible refine Kd.C_alloc ?_ _) | (with_reducible refine Kd.C_drewN ?_ _) | (with_reducible refine Kd.C_drew ?_))); (case side2 => exact HC0.out); rintro e w21 ⟨v224, rfl, ho0, hb⟩; have n0_ := Ad.mk (Kd.R_lower ho0 (below_size (by repeat (first | (with_reducible first | exact HB.out | apply bwA | apply bwN | apply bw1) | exact HB.out)))); have n1_ := Ad.mk (below_step (by repeat (first | (with_reducible first | exact HB.out | apply bwA | apply bwN | apply bw1) | exact HB.out)) hb); clear HB; have HO225 := n0_; have HB := n1_; clear n0_ n1_; (try clear hb); (try clear hb2); (try clear hk); (try clear hi); (try clear ho0))); try go_wp2_with (first | (go_at_call 56; (with_reducible refine (r06_Right.calls a1 a2 true _ A4.out).mono ?_); rintro e w' ⟨rfl, ⟨nd, rfl⟩⟩; (try first | exact ⟨rfl, _, World.drewN_drewN _ _ _⟩ | exact ⟨rfl, _, Eq.trans (World.drewN_drewN _ _ _) (congrArg (World.drewN _) (Nat.add_assoc _ _ _))⟩); have p220 : 0 ≤ (0 : Int) := (by omega); have q220 : 0 < (l0.length : Int) := of_decide_eq_true (by first | (with_reducible assumption) | assumption); obtain ⟨ad220, e220, hx220_0⟩ := Kd.at_int HR0.out 0 p220 q220; cases e220; have qi220 : (0 < l0.length) = True := eq_true (by omega); (try rw [show ((0 : Int)).toNat = 0 from rfl] at hx220_0); (try rw [Addr.add_zero'] at hx220_0); replace p220 := eq_true p220; replace q220 := eq_true q220) | (go_at_call 57; (with_reducible refine (r05_Get.calls k _ _ l0 1 (wrap64 (a1 * a2)) t221 t222 t223 _ ?side1 ?side2 A9.out).mono ?_); (case side1 => repeat (first | exact HR0.out | (with_reducible refine Kd.C_alloc ?_ _) | (with_reducible refine Kd.C_drewN ?_ _) | (with_reducible refine Kd.C_drew ?_))); (case side2 => exact HC0.out); rintro e w21 ⟨v224, rfl, ho0, hb⟩; have n0_ := Ad.mk (Kd.R_lower ho0 (below_size (by repeat (first | (with_reducible first | exact HB.out | apply bwA | apply bwN | apply bw1) | exact HB.out)))); have n1_ := Ad.mk (below_step (by repeat (first | (with_reducible first | exact HB.out | apply bwA | apply bwN | apply bw1) | exact HB.out)) hb); clear HB; have HO225 := n0_; have HB := n1_; clear n0_ n1_; (try clear hb); (try clear hb2); (try clear hk); (try clear hi); (try clear ho0))))
      go_ret3
      exact ⟨_, by first | rfl | (simp [errW_none, errW_some] <;> rfl) | (simp [*, errW_none, errW_some] <;> rfl), by first | exact Kd.R_nil _ _ _ _ _ | exact Kd.N_nil _ _ _ _ _ | exact Kd.V_nil _ _ _ _ _ | exact Kd.Q_nil _ _ _ _ _ | exact Kd.S_nil _ _ _ _ _, by repeat (first | (with_reducible first | exact HB.out | apply bwA | apply bwN | apply bw1) | exact HB.out)⟩
   ·rw [if_neg c7] at H
    exact absurd H (by simp)
 ·replace c5 := Bool.eq_false_iff.mpr c5
  subst c5
  have H1 : (some (([] : List Int), 0, 3)) = some (r1, r2, r3) := by rw [if_neg (show ¬ (false = true) by decide)] at H; exact H
  clear H
  have H := H1
  clear H1
  simp only [Option.some.injEq, Prod.mk.injEq] at H
  obtain ⟨rfl, rfl, rfl⟩ := H
  go_enter Tryz.func32, Tryz.ntmps32
  go_wp2_with (first | (go_at_call 56; (with_reducible refine (r06_Right.calls a1 a2 false _ A4.out).mono ?_); rintro e w' ⟨rfl, ⟨nd, rfl⟩⟩; (try first | exact ⟨rfl, _, World.drewN_drewN _ _ _⟩ | exact ⟨rfl, _, Eq.trans (World.drewN_drewN _ _ _) (congrArg (World.drewN _) (Nat.add_assoc _ _ _))⟩)))
  repeat (go_quiet (first | (go_at_call 56; (with_reducible refine (r06_Right.calls a1 a2 false _ A4.out).mono ?_); rintro e w' ⟨rfl, ⟨nd, rfl⟩⟩; (try first | exact ⟨rfl, _, World.drewN_drewN _ _ _⟩ | exact ⟨rfl, _, Eq.trans (World.drewN_drewN _ _ _) (congrArg (World.drewN _) (Nat.add_assoc _ _ _))⟩))); try go_wp2_with (first | (go_at_call 56; (with_reducible refine (r06_Right.calls a1 a2 false _ A4.out).mono ?_); rintro e w' ⟨rfl, ⟨nd, rfl⟩⟩; (try first | exact ⟨rfl, _, World.drewN_drewN _ _ _⟩ | exact ⟨rfl, _, Eq.trans (World.drewN_drewN _ _ _) (congrArg (World.drewN _) (Nat.add_assoc _ _ _))⟩))))
  go_ret3
  exact ⟨_, by first | rfl | (simp [errW_none, errW_some] <;> rfl) | (simp [*, errW_none, errW_some] <;> rfl), by first | exact Kd.R_nil _ _ _ _ _ | exact Kd.N_nil _ _ _ _ _ | exact Kd.V_nil _ _ _ _ _ | exact Kd.Q_nil _ _ _ _ _ | exact Kd.S_nil _ _ _ _ _, by repeat (first | (with_reducible first | exact HB.out | apply bwA | apply bwN | apply bw1) | exact HB.out)⟩
end Go.Proofs.YthnndjlccepebaaGreatDoor.PHeavy
namespace Go.Proofs.YthnndjlccepebaaGreatDoor.PHeavy
open Go.RowKit Go.Proofs.YthnndjlccepebaaGreatDoorW.PrintWords Go.Proofs.YthnndjlccepebaaGreatDoorW.PrintLast

mutual
def r07_Within.j0 : Nat → Int → Int → Bool → Int → Int → Int → Int → Option (Int)
 | 0, _, _, _, _, _, _, _ => none
 | k + 1, x1, x2, x20, x233000, x233001, x233002, x233003 => if x20 = true then (some 3) else (if x233000 < 0 then (r07_Within.j1 k true x233000 x233001 x233002 x233003) else (if x233000 ≥ x1 then (r07_Within.j1 k true x233000 x233001 x233002 x233003) else (if x233002 < 0 then (r07_Within.j1 k true x233000 x233001 x233002 x233003) else (if x233002 ≥ x1 then (r07_Within.j1 k true x233000 x233001 x233002 x233003) else (if x233001 < 0 then (r07_Within.j1 k true x233000 x233001 x233002 x233003) else (if x233001 ≥ x2 then (r07_Within.j1 k true x233000 x233001 x233002 x233003) else (if x233003 < 0 then (r07_Within.j1 k true x233000 x233001 x233002 x233003) else (r07_Within.j1 k (decide (x233003 ≥ x2)) x233000 x233001 x233002 x233003))))))))
def r07_Within.j1 : Nat → Bool → Int → Int → Int → Int → Option (Int)
 | 0, _, _, _, _, _ => none
 | k + 1, x62, x233000, x233001, x233002, x233003 => if x62 = true then (some 4) else (if x233000 > x233002 then (some 5) else (if x233001 > x233003 then (some 5) else (some 0)))
end
def r07_Within.f (k : Nat) (a0_0 : Int) (a0_1 : Int) (a0_2 : Int) (a0_3 : Int) (a1 : Int) (a2 : Int) : Option (Int) := if a1 < 1 then (r07_Within.j0 k a1 a2 true a0_0 a0_1 a0_2 a0_3) else (if a1 > 1024 then (r07_Within.j0 k a1 a2 true a0_0 a0_1 a0_2 a0_3) else (if a2 < 1 then (r07_Within.j0 k a1 a2 true a0_0 a0_1 a0_2 a0_3) else (r07_Within.j0 k a1 a2 (decide (a2 > 1024)) a0_0 a0_1 a0_2 a0_3)))
set_option maxHeartbeats 8000000 in
set_option maxRecDepth 100000 in
theorem r07_Within.calls (k : Nat) (a0_0 : Int) (a0_1 : Int) (a0_2 : Int) (a0_3 : Int) (a1 : Int) (a2 : Int) (r : Int) (w : World) (h : r07_Within.f k a0_0 a0_1 a0_2 a0_3 a1 a2 = some r) :
  Calls Tryz.prog 59 #[.agg #[.int .i64 a0_0, .int .i64 a0_1, .int .i64 a0_2, .int .i64 a0_3], .int .i64 a1, .int .i64 a2] w fun e w' => e = .returned (.int .i64 r) ∧ Below w.heap.size w w' := by
 have hu23 := Tryz.underlying23
 have HB := Ad.mk (Below.refl w.heap.size w)
 have H : (if a1 < 1 then (r07_Within.j0 k a1 a2 true a0_0 a0_1 a0_2 a0_3) else (if a1 > 1024 then (r07_Within.j0 k a1 a2 true a0_0 a0_1 a0_2 a0_3) else (if a2 < 1 then (r07_Within.j0 k a1 a2 true a0_0 a0_1 a0_2 a0_3) else (r07_Within.j0 k a1 a2 (decide (a2 > 1024)) a0_0 a0_1 a0_2 a0_3)))) = some r := h
 clear h
 have HC4 := Ad.mk H
 clear H
 go_enter Tryz.func59, Tryz.ntmps59
 go_upto_region 1 with (first | ((with_reducible refine gate_dst (N := 3) rfl ?_); refine box_event ?hg (N := 3) ?hd (cs := #[.int .i64 a0_0, .int .i64 a0_1, .int .i64 a0_2, .int .i64 a0_3]) (t := 23) ?hr ?_; (case hd => rfl); (case hg => rfl); (case hr => first | (go_simp; done) | (go_simp; rfl)); intro gb232 hg w5 hbox hb; have n0_ := Ad.mk (below_step (by repeat (first | (with_reducible first | exact HB.out | apply bwA | apply bwN | apply bw1) | exact HB.out)) hb); have n1_ := Ad.mk (hbox); have n2_ := Ad.mk ((by rw [hg]; exact (below_size (by repeat (first | (with_reducible first | exact HB.out | apply bwA | apply bwN | apply bw1) | exact HB.out))) : w.heap.size ≤ gb232)); have n3_ := Ad.mk ((by rw [hg]; exact (below_size (by repeat (first | (with_reducible first | exact HB.out | apply bwA | apply bwN | apply bw1) | exact HB.out))) : w.heap.size ≤ gb232)); clear HB; have HB := n0_; have BK232 := n1_; have GW232 := n2_; have GE232 := n3_; clear n0_ n1_ n2_ n3_; clear hb hbox hg))
 (try simp only [Act.put, List.setIfInBounds_toArray, List.set_cons_zero, List.set_cons_succ])
 go_cut [20] (fun v20 wc => ∃ (kq : Nat) (x20_3 : Bool), v20 = .bool x20_3 ∧ Ad (r07_Within.j0 kq a1 a2 x20_3 a0_0 a0_1 a0_2 a0_3 = some r) ∧ Ad (kq ≤ k) ∧ Ad (wc.heap[gb232]? = some (.cells #[.int .i64 a0_0, .int .i64 a0_1, .int .i64 a0_2, .int .i64 a0_3] 23 (0, 0))) ∧ Ad (Below w.heap.size w wc))
 case first =>
  have H := HC4.out
  clear HC4
  by_cases c6 : a1 < 1
  ·rw [if_pos c6] at H
   have c6b0 : decide (a1 < 1) = true := decide_eq_true c6
   clear c6
   (first | rw [c6b0] | (simp only [i64_w]; rw [c6b0]) | skip)
   have H' := Ad.mk H
   clear H
   go_wp2
   go_meet
   case rel => exact ⟨_, (true), (by first | rfl | (simp; done) | (simp [*]; done)), H', ⟨by first | omega | exact Nat.le_refl _⟩, ⟨by (with_reducible repeat (first | refine bkN ?_ _ | refine bkD ?_ | refine bkA ?_ _)); exact BK232.out⟩, ⟨by repeat (first | (with_reducible first | exact HB.out | apply bwA | apply bwN | apply bw1 | refine bwS ?_ GE232.out) | exact HB.out)⟩⟩
  ·rw [if_neg c6] at H
   have c6b0 : decide (a1 < 1) = false := decide_eq_false c6
   clear c6
   (first | rw [c6b0] | (simp only [i64_w]; rw [c6b0]) | skip)
   by_cases c7 : a1 > 1024
   ·rw [if_pos c7] at H
    have c7b0 : decide (1024 < a1) = true := decide_eq_true c7
    clear c7
    have H' := Ad.mk H
    clear H
    go_wp2
    go_meet
    case rel => exact ⟨_, (true), (by first | rfl | (simp; done) | (simp [*]; done)), H', ⟨by first | omega | exact Nat.le_refl _⟩, ⟨by (with_reducible repeat (first | refine bkN ?_ _ | refine bkD ?_ | refine bkA ?_ _)); exact BK232.out⟩, ⟨by repeat (first | (with_reducible first | exact HB.out | apply bwA | apply bwN | apply bw1 | refine bwS ?_ GE232.out) | exact HB.out)⟩⟩
   ·rw [if_neg c7] at H
    have c7b0 : decide (1024 < a1) = false := decide_eq_false c7
    clear c7
    by_cases c8 : a2 < 1
    ·rw [if_pos c8] at H
     have c8b0 : decide (a2 < 1) = true := decide_eq_true c8
     clear c8
     have H' := Ad.mk H
     clear H
     go_wp2
     go_meet
     case rel => exact ⟨_, (true), (by first | rfl | (simp; done) | (simp [*]; done)), H', ⟨by first | omega | exact Nat.le_refl _⟩, ⟨by (with_reducible repeat (first | refine bkN ?_ _ | refine bkD ?_ | refine bkA ?_ _)); exact BK232.out⟩, ⟨by repeat (first | (with_reducible first | exact HB.out | apply bwA | apply bwN | apply bw1 | refine bwS ?_ GE232.out) | exact HB.out)⟩⟩
    ·rw [if_neg c8] at H
     have c8b0 : decide (a2 < 1) = false := decide_eq_false c8
     clear c8
     have H' := Ad.mk H
     clear H
     go_wp2
     go_meet
     case rel => exact ⟨_, (decide (a2 > 1024)), (by first | rfl | (simp; done) | (simp [*]; done)), H', ⟨by first | omega | exact Nat.le_refl _⟩, ⟨by (with_reducible repeat (first | refine bkN ?_ _ | refine bkD ?_ | refine bkA ?_ _)); exact BK232.out⟩, ⟨by repeat (first | (with_reducible first | exact HB.out | apply bwA | apply bwN | apply bw1 | refine bwS ?_ GE232.out) | exact HB.out)⟩⟩
 case rest =>
  clear HC4
  try clear p2
  try clear c5
  try clear c6
  try clear c6b0
  try clear c7
  try clear c7b0
  try clear c8
  try clear c8b0
  obtain ⟨kq, x20_3, rfl, HA, HJ3, BK232, HB⟩ := hcut
  cases kq with
  | zero => exact absurd HA.out (by simp [r07_Within.j0])
  | succ kj3 =>
   have H := HA.out
   clear HA
   simp only [r07_Within.j0] at H
   by_cases c9 : x20_3 = true
   ·subst c9
    have H1 : (some 3) = some r := by rw [if_pos rfl] at H; exact H
    clear H
    have H := H1
    clear H1
    obtain rfl := Option.some.inj H
    go_wp2
    go_ret
    exact ⟨by first | rfl | (simp [errW_none, errW_some] <;> rfl) | (simp [*, errW_none, errW_some] <;> rfl), by repeat (first | (with_reducible first | exact HB.out | apply bwA | apply bwN | apply bw1 | refine bwS ?_ GE232.out) | exact HB.out)⟩
   ·replace c9 := Bool.eq_false_iff.mpr c9
    subst c9
    have H1 : (if a0_0 < 0 then (r07_Within.j1 kj3 true a0_0 a0_1 a0_2 a0_3) else (if a0_0 ≥ a1 then (r07_Within.j1 kj3 true a0_0 a0_1 a0_2 a0_3) else (if a0_2 < 0 then (r07_Within.j1 kj3 true a0_0 a0_1 a0_2 a0_3) else (if a0_2 ≥ a1 then (r07_Within.j1 kj3 true a0_0 a0_1 a0_2 a0_3) else (if a0_1 < 0 then (r07_Within.j1 kj3 true a0_0 a0_1 a0_2 a0_3) else (if a0_1 ≥ a2 then (r07_Within.j1 kj3 true a0_0 a0_1 a0_2 a0_3) else (if a0_3 < 0 then (r07_Within.j1 kj3 true a0_0 a0_1 a0_2 a0_3) else (r07_Within.j1 kj3 (decide (a0_3 ≥ a2)) a0_0 a0_1 a0_2 a0_3)))))))) = some r := by rw [if_neg (show ¬ (false = true) by decide)] at H; exact H
    clear H
    have H := H1
    clear H1
    have HC10 := Ad.mk H
    clear H
    go_upto_region 3 with (fail)
    go_cut [62] (fun v62 wc => ∃ (kq : Nat) (x62_9 : Bool), v62 = .bool x62_9 ∧ Ad (r07_Within.j1 kq x62_9 a0_0 a0_1 a0_2 a0_3 = some r) ∧ Ad (kq ≤ kj3) ∧ Ad (wc.heap[gb232]? = some (.cells #[.int .i64 a0_0, .int .i64 a0_1, .int .i64 a0_2, .int .i64 a0_3] 23 (0, 0))) ∧ Ad (Below w.heap.size w wc))
    case first =>
     have H := HC10.out
     clear HC10
     by_cases c11 : a0_0 < 0
     ·rw [if_pos c11] at H
      have c11b0 : decide (a0_0 < 0) = true := decide_eq_true c11
      clear c11
      (first | rw [c11b0] | (simp only [i64_w]; rw [c11b0]) | skip)
      have H' := Ad.mk H
      clear H
      have hcz12_0 : wc.cell? ⟨gb232, 0, none⟩ = some (.int .i64 a0_0) := (bkC BK232.out 0).trans rfl
      have hcz12_1 : wc.cell? ⟨gb232, 1, none⟩ = some (.int .i64 a0_1) := (bkC BK232.out 1).trans rfl
      have hcz12_2 : wc.cell? ⟨gb232, 2, none⟩ = some (.int .i64 a0_2) := (bkC BK232.out 2).trans rfl
      have hcz12_3 : wc.cell? ⟨gb232, 3, none⟩ = some (.int .i64 a0_3) := (bkC BK232.out 3).trans rfl
      have hfz12_0 := bkF BK232.out 0
      have hfz12_1 := bkF BK232.out 1
      have hfz12_2 := bkF BK232.out 2
      have hfz12_3 := bkF BK232.out 3
      go_wp2
      go_meet
      case rel => exact ⟨_, (true), (by first | rfl | (simp; done) | (simp [*]; done)), H', ⟨by have := HJ3.out; first | omega | exact Nat.le_refl _⟩, ⟨by (with_reducible repeat (first | refine bkN ?_ _ | refine bkD ?_ | refine bkA ?_ _)); exact BK232.out⟩, ⟨by repeat (first | (with_reducible first | exact HB.out | apply bwA | apply bwN | apply bw1 | refine bwS ?_ GE232.out) | exact HB.out)⟩⟩
     ·rw [if_neg c11] at H
      have c11b0 : decide (a0_0 < 0) = false := decide_eq_false c11
      clear c11
      (first | rw [c11b0] | (simp only [i64_w]; rw [c11b0]) | skip)
      by_cases c13 : a0_0 ≥ a1
      ·rw [if_pos c13] at H
       have c13b0 : decide (a1 ≤ a0_0) = true := decide_eq_true c13
       clear c13
       have H' := Ad.mk H
       clear H
       have hcz14_0 : wc.cell? ⟨gb232, 0, none⟩ = some (.int .i64 a0_0) := (bkC BK232.out 0).trans rfl
       have hcz14_1 : wc.cell? ⟨gb232, 1, none⟩ = some (.int .i64 a0_1) := (bkC BK232.out 1).trans rfl
       have hcz14_2 : wc.cell? ⟨gb232, 2, none⟩ = some (.int .i64 a0_2) := (bkC BK232.out 2).trans rfl
       have hcz14_3 : wc.cell? ⟨gb232, 3, none⟩ = some (.int .i64 a0_3) := (bkC BK232.out 3).trans rfl
       have hfz14_0 := bkF BK232.out 0
       have hfz14_1 := bkF BK232.out 1
       have hfz14_2 := bkF BK232.out 2
       have hfz14_3 := bkF BK232.out 3
       go_wp2
       go_meet
       case rel => exact ⟨_, (true), (by first | rfl | (simp; done) | (simp [*]; done)), H', ⟨by have := HJ3.out; first | omega | exact Nat.le_refl _⟩, ⟨by (with_reducible repeat (first | refine bkN ?_ _ | refine bkD ?_ | refine bkA ?_ _)); exact BK232.out⟩, ⟨by repeat (first | (with_reducible first | exact HB.out | apply bwA | apply bwN | apply bw1 | refine bwS ?_ GE232.out) | exact HB.out)⟩⟩
      ·rw [if_neg c13] at H
       have c13b0 : decide (a1 ≤ a0_0) = false := decide_eq_false c13
       clear c13
       by_cases c15 : a0_2 < 0
       ·rw [if_pos c15] at H
        have c15b0 : decide (a0_2 < 0) = true := decide_eq_true c15
        clear c15
        have H' := Ad.mk H
        clear H
        have hcz16_0 : wc.cell? ⟨gb232, 0, none⟩ = some (.int .i64 a0_0) := (bkC BK232.out 0).trans rfl
        have hcz16_1 : wc.cell? ⟨gb232, 1, none⟩ = some (.int .i64 a0_1) := (bkC BK232.out 1).trans rfl
        have hcz16_2 : wc.cell? ⟨gb232, 2, none⟩ = some (.int .i64 a0_2) := (bkC BK232.out 2).trans rfl
        have hcz16_3 : wc.cell? ⟨gb232, 3, none⟩ = some (.int .i64 a0_3) := (bkC BK232.out 3).trans rfl
        have hfz16_0 := bkF BK232.out 0
        have hfz16_1 := bkF BK232.out 1
        have hfz16_2 := bkF BK232.out 2
        have hfz16_3 := bkF BK232.out 3
        go_wp2
        go_meet
        case rel => exact ⟨_, (true), (by first | rfl | (simp; done) | (simp [*]; done)), H', ⟨by have := HJ3.out; first | omega | exact Nat.le_refl _⟩, ⟨by (with_reducible repeat (first | refine bkN ?_ _ | refine bkD ?_ | refine bkA ?_ _)); exact BK232.out⟩, ⟨by repeat (first | (with_reducible first | exact HB.out | apply bwA | apply bwN | apply bw1 | refine bwS ?_ GE232.out) | exact HB.out)⟩⟩
       ·rw [if_neg c15] at H
        have c15b0 : decide (a0_2 < 0) = false := decide_eq_false c15
        clear c15
        by_cases c17 : a0_2 ≥ a1
        ·rw [if_pos c17] at H
         have c17b0 : decide (a1 ≤ a0_2) = true := decide_eq_true c17
         clear c17
         have H' := Ad.mk H
         clear H
         have hcz18_0 : wc.cell? ⟨gb232, 0, none⟩ = some (.int .i64 a0_0) := (bkC BK232.out 0).trans rfl
         have hcz18_1 : wc.cell? ⟨gb232, 1, none⟩ = some (.int .i64 a0_1) := (bkC BK232.out 1).trans rfl
         have hcz18_2 : wc.cell? ⟨gb232, 2, none⟩ = some (.int .i64 a0_2) := (bkC BK232.out 2).trans rfl
         have hcz18_3 : wc.cell? ⟨gb232, 3, none⟩ = some (.int .i64 a0_3) := (bkC BK232.out 3).trans rfl
         have hfz18_0 := bkF BK232.out 0
         have hfz18_1 := bkF BK232.out 1
         have hfz18_2 := bkF BK232.out 2
         have hfz18_3 := bkF BK232.out 3
         go_wp2
         go_meet
         case rel => exact ⟨_, (true), (by first | rfl | (simp; done) | (simp [*]; done)), H', ⟨by have := HJ3.out; first | omega | exact Nat.le_refl _⟩, ⟨by (with_reducible repeat (first | refine bkN ?_ _ | refine bkD ?_ | refine bkA ?_ _)); exact BK232.out⟩, ⟨by repeat (first | (with_reducible first | exact HB.out | apply bwA | apply bwN | apply bw1 | refine bwS ?_ GE232.out) | exact HB.out)⟩⟩
        ·rw [if_neg c17] at H
         have c17b0 : decide (a1 ≤ a0_2) = false := decide_eq_false c17
         clear c17
         by_cases c19 : a0_1 < 0
         ·rw [if_pos c19] at H
          have c19b0 : decide (a0_1 < 0) = true := decide_eq_true c19
          clear c19
          have H' := Ad.mk H
          clear H
          have hcz20_0 : wc.cell? ⟨gb232, 0, none⟩ = some (.int .i64 a0_0) := (bkC BK232.out 0).trans rfl
          have hcz20_1 : wc.cell? ⟨gb232, 1, none⟩ = some (.int .i64 a0_1) := (bkC BK232.out 1).trans rfl
          have hcz20_2 : wc.cell? ⟨gb232, 2, none⟩ = some (.int .i64 a0_2) := (bkC BK232.out 2).trans rfl
          have hcz20_3 : wc.cell? ⟨gb232, 3, none⟩ = some (.int .i64 a0_3) := (bkC BK232.out 3).trans rfl
          have hfz20_0 := bkF BK232.out 0
          have hfz20_1 := bkF BK232.out 1
          have hfz20_2 := bkF BK232.out 2
          have hfz20_3 := bkF BK232.out 3
          go_wp2
          go_meet
          case rel => exact ⟨_, (true), (by first | rfl | (simp; done) | (simp [*]; done)), H', ⟨by have := HJ3.out; first | omega | exact Nat.le_refl _⟩, ⟨by (with_reducible repeat (first | refine bkN ?_ _ | refine bkD ?_ | refine bkA ?_ _)); exact BK232.out⟩, ⟨by repeat (first | (with_reducible first | exact HB.out | apply bwA | apply bwN | apply bw1 | refine bwS ?_ GE232.out) | exact HB.out)⟩⟩
         ·rw [if_neg c19] at H
          have c19b0 : decide (a0_1 < 0) = false := decide_eq_false c19
          clear c19
          by_cases c21 : a0_1 ≥ a2
          ·rw [if_pos c21] at H
           have c21b0 : decide (a2 ≤ a0_1) = true := decide_eq_true c21
           clear c21
           have H' := Ad.mk H
           clear H
           have hcz22_0 : wc.cell? ⟨gb232, 0, none⟩ = some (.int .i64 a0_0) := (bkC BK232.out 0).trans rfl
           have hcz22_1 : wc.cell? ⟨gb232, 1, none⟩ = some (.int .i64 a0_1) := (bkC BK232.out 1).trans rfl
           have hcz22_2 : wc.cell? ⟨gb232, 2, none⟩ = some (.int .i64 a0_2) := (bkC BK232.out 2).trans rfl
           have hcz22_3 : wc.cell? ⟨gb232, 3, none⟩ = some (.int .i64 a0_3) := (bkC BK232.out 3).trans rfl
           have hfz22_0 := bkF BK232.out 0
           have hfz22_1 := bkF BK232.out 1
           have hfz22_2 := bkF BK232.out 2
           have hfz22_3 := bkF BK232.out 3
           go_wp2
           go_meet
           case rel => exact ⟨_, (true), (by first | rfl | (simp; done) | (simp [*]; done)), H', ⟨by have := HJ3.out; first | omega | exact Nat.le_refl _⟩, ⟨by (with_reducible repeat (first | refine bkN ?_ _ | refine bkD ?_ | refine bkA ?_ _)); exact BK232.out⟩, ⟨by repeat (first | (with_reducible first | exact HB.out | apply bwA | apply bwN | apply bw1 | refine bwS ?_ GE232.out) | exact HB.out)⟩⟩
          ·rw [if_neg c21] at H
           have c21b0 : decide (a2 ≤ a0_1) = false := decide_eq_false c21
           clear c21
           by_cases c23 : a0_3 < 0
           ·rw [if_pos c23] at H
            have c23b0 : decide (a0_3 < 0) = true := decide_eq_true c23
            clear c23
            have H' := Ad.mk H
            clear H
            have hcz24_0 : wc.cell? ⟨gb232, 0, none⟩ = some (.int .i64 a0_0) := (bkC BK232.out 0).trans rfl
            have hcz24_1 : wc.cell? ⟨gb232, 1, none⟩ = some (.int .i64 a0_1) := (bkC BK232.out 1).trans rfl
            have hcz24_2 : wc.cell? ⟨gb232, 2, none⟩ = some (.int .i64 a0_2) := (bkC BK232.out 2).trans rfl
            have hcz24_3 : wc.cell? ⟨gb232, 3, none⟩ = some (.int .i64 a0_3) := (bkC BK232.out 3).trans rfl
            have hfz24_0 := bkF BK232.out 0
            have hfz24_1 := bkF BK232.out 1
            have hfz24_2 := bkF BK232.out 2
            have hfz24_3 := bkF BK232.out 3
            go_wp2
            go_meet
            case rel => exact ⟨_, (true), (by first | rfl | (simp; done) | (simp [*]; done)), H', ⟨by have := HJ3.out; first | omega | exact Nat.le_refl _⟩, ⟨by (with_reducible repeat (first | refine bkN ?_ _ | refine bkD ?_ | refine bkA ?_ _)); exact BK232.out⟩, ⟨by repeat (first | (with_reducible first | exact HB.out | apply bwA | apply bwN | apply bw1 | refine bwS ?_ GE232.out) | exact HB.out)⟩⟩
           ·rw [if_neg c23] at H
            have c23b0 : decide (a0_3 < 0) = false := decide_eq_false c23
            clear c23
            have H' := Ad.mk H
            clear H
            have hcz25_0 : wc.cell? ⟨gb232, 0, none⟩ = some (.int .i64 a0_0) := (bkC BK232.out 0).trans rfl
            have hcz25_1 : wc.cell? ⟨gb232, 1, none⟩ = some (.int .i64 a0_1) := (bkC BK232.out 1).trans rfl
            have hcz25_2 : wc.cell? ⟨gb232, 2, none⟩ = some (.int .i64 a0_2) := (bkC BK232.out 2).trans rfl
            have hcz25_3 : wc.cell? ⟨gb232, 3, none⟩ = some (.int .i64 a0_3) := (bkC BK232.out 3).trans rfl
            have hfz25_0 := bkF BK232.out 0
            have hfz25_1 := bkF BK232.out 1
            have hfz25_2 := bkF BK232.out 2
            have hfz25_3 := bkF BK232.out 3
            go_wp2
            go_meet
            case rel => exact ⟨_, (decide (a0_3 ≥ a2)), (by first | rfl | (simp; done) | (simp [*]; done)), H', ⟨by have := HJ3.out; first | omega | exact Nat.le_refl _⟩, ⟨by (with_reducible repeat (first | refine bkN ?_ _ | refine bkD ?_ | refine bkA ?_ _)); exact BK232.out⟩, ⟨by repeat (first | (with_reducible first | exact HB.out | apply bwA | apply bwN | apply bw1 | refine bwS ?_ GE232.out) | exact HB.out)⟩⟩
    case rest =>
     clear HC10
     try clear c1
     try clear c2
     try clear p2
     try clear c5
     try clear c6
     try clear c6b0
     try clear c7
     try clear c7b0
     try clear c8
     try clear c8b0
     try clear c9
     try clear c11
     try clear c11b0
     try clear c13
     try clear c13b0
     try clear c15
     try clear c15b0
     try clear c17
     try clear c17b0
     try clear c19
     try clear c19b0
     try clear c21
     try clear c21b0
     try clear c23
     try clear c23b0
     try clear hcz12_0
     try clear hcz12_1
     try clear hcz12_2
     try clear hcz12_3
     try clear hcz14_0
     try clear hcz14_1
     try clear hcz14_2
     try clear hcz14_3
     try clear hcz16_0
     try clear hcz16_1
     try clear hcz16_2
     try clear hcz16_3
     try clear hcz18_0
     try clear hcz18_1
     try clear hcz18_2
     try clear hcz18_3
     try clear hcz20_0
     try clear hcz20_1
     try clear hcz20_2
     try clear hcz20_3
     try clear hcz22_0
     try clear hcz22_1
     try clear hcz22_2
     try clear hcz22_3
     try clear hcz24_0
     try clear hcz24_1
     try clear hcz24_2
     try clear hcz24_3
     try clear hcz25_0
     try clear hcz25_1
     try clear hcz25_2
     try clear hcz25_3
     try clear hfz12_0
     try clear hfz12_1
     try clear hfz12_2
     try clear hfz12_3
     try clear hfz14_0
     try clear hfz14_1
     try clear hfz14_2
     try clear hfz14_3
     try clear hfz16_0
     try clear hfz16_1
     try clear hfz16_2
     try clear hfz16_3
     try clear hfz18_0
     try clear hfz18_1
     try clear hfz18_2
     try clear hfz18_3
     try clear hfz20_0
     try clear hfz20_1
     try clear hfz20_2
     try clear hfz20_3
     try clear hfz22_0
     try clear hfz22_1
     try clear hfz22_2
     try clear hfz22_3
     try clear hfz24_0
     try clear hfz24_1
     try clear hfz24_2
     try clear hfz24_3
     try clear hfz25_0
     try clear hfz25_1
     try clear hfz25_2
     try clear hfz25_3
     try clear p2
     obtain ⟨kq, x62_9, rfl, HA, HJ9, BK232, HB⟩ := hcut
     cases kq with
     | zero => exact absurd HA.out (by simp [r07_Within.j1])
     | succ kj9 =>
      have H := HA.out
      clear HA
      simp only [r07_Within.j1] at H
      by_cases c26 : x62_9 = true
      ·subst c26
       have H1 : (some 4) = some r := by rw [if_pos rfl] at H; exact H
       clear H
       have H := H1
       clear H1
       obtain rfl := Option.some.inj H
       go_wp2
       go_ret
       exact ⟨by first | rfl | (simp [errW_none, errW_some] <;> rfl) | (simp [*, errW_none, errW_some] <;> rfl), by repeat (first | (with_reducible first | exact HB.out | apply bwA | apply bwN | apply bw1 | refine bwS ?_ GE232.out) | exact HB.out)⟩
      ·replace c26 := Bool.eq_false_iff.mpr c26
       subst c26
       have H1 : (if a0_0 > a0_2 then (some 5) else (if a0_1 > a0_3 then (some 5) else (some 0))) = some r := by rw [if_neg (show ¬ (false = true) by decide)] at H; exact H
       clear H
       have H := H1
       clear H1
       by_cases c27 : a0_0 > a0_2
       ·rw [if_pos c27] at H
        have c27b0 : decide (a0_2 < a0_0) = true := decide_eq_true c27
        clear c27
        obtain rfl := Option.some.inj H
        have hcz28_0 : wc.cell? ⟨gb232, 0, none⟩ = some (.int .i64 a0_0) := (bkC BK232.out 0).trans rfl
        have hcz28_1 : wc.cell? ⟨gb232, 1, none⟩ = some (.int .i64 a0_1) := (bkC BK232.out 1).trans rfl
        have hcz28_2 : wc.cell? ⟨gb232, 2, none⟩ = some (.int .i64 a0_2) := (bkC BK232.out 2).trans rfl
        have hcz28_3 : wc.cell? ⟨gb232, 3, none⟩ = some (.int .i64 a0_3) := (bkC BK232.out 3).trans rfl
        have hfz28_0 := bkF BK232.out 0
        have hfz28_1 := bkF BK232.out 1
        have hfz28_2 := bkF BK232.out 2
        have hfz28_3 := bkF BK232.out 3
        go_wp2
        go_ret
        exact ⟨by first | rfl | (simp [errW_none, errW_some] <;> rfl) | (simp [*, errW_none, errW_some] <;> rfl), by repeat (first | (with_reducible first | exact HB.out | apply bwA | apply bwN | apply bw1 | refine bwS ?_ GE232.out) | exact HB.out)⟩
       ·rw [if_neg c27] at H
        have c27b0 : decide (a0_2 < a0_0) = false := decide_eq_false c27
        clear c27
        by_cases c29 : a0_1 > a0_3
        ·rw [if_pos c29] at H
         have c29b0 : decide (a0_3 < a0_1) = true := decide_eq_true c29
         clear c29
         obtain rfl := Option.some.inj H
         have hcz30_0 : wc.cell? ⟨gb232, 0, none⟩ = some (.int .i64 a0_0) := (bkC BK232.out 0).trans rfl
         have hcz30_1 : wc.cell? ⟨gb232, 1, none⟩ = some (.int .i64 a0_1) := (bkC BK232.out 1).trans rfl
         have hcz30_2 : wc.cell? ⟨gb232, 2, none⟩ = some (.int .i64 a0_2) := (bkC BK232.out 2).trans rfl
         have hcz30_3 : wc.cell? ⟨gb232, 3, none⟩ = some (.int .i64 a0_3) := (bkC BK232.out 3).trans rfl
         have hfz30_0 := bkF BK232.out 0
         have hfz30_1 := bkF BK232.out 1
         have hfz30_2 := bkF BK232.out 2
         have hfz30_3 := bkF BK232.out 3
         go_wp2
         go_ret
         exact ⟨by first | rfl | (simp [errW_none, errW_some] <;> rfl) | (simp [*, errW_none, errW_some] <;> rfl), by repeat (first | (with_reducible first | exact HB.out | apply bwA | apply bwN | apply bw1 | refine bwS ?_ GE232.out) | exact HB.out)⟩
        ·rw [if_neg c29] at H
         have c29b0 : decide (a0_3 < a0_1) = false := decide_eq_false c29
         clear c29
         obtain rfl := Option.some.inj H
         have hcz31_0 : wc.cell? ⟨gb232, 0, none⟩ = some (.int .i64 a0_0) := (bkC BK232.out 0).trans rfl
         have hcz31_1 : wc.cell? ⟨gb232, 1, none⟩ = some (.int .i64 a0_1) := (bkC BK232.out 1).trans rfl
         have hcz31_2 : wc.cell? ⟨gb232, 2, none⟩ = some (.int .i64 a0_2) := (bkC BK232.out 2).trans rfl
         have hcz31_3 : wc.cell? ⟨gb232, 3, none⟩ = some (.int .i64 a0_3) := (bkC BK232.out 3).trans rfl
         have hfz31_0 := bkF BK232.out 0
         have hfz31_1 := bkF BK232.out 1
         have hfz31_2 := bkF BK232.out 2
         have hfz31_3 := bkF BK232.out 3
         go_wp2
         go_ret
         exact ⟨by first | rfl | (simp [errW_none, errW_some] <;> rfl) | (simp [*, errW_none, errW_some] <;> rfl), by repeat (first | (with_reducible first | exact HB.out | apply bwA | apply bwN | apply bw1 | refine bwS ?_ GE232.out) | exact HB.out)⟩
def r07_Area.f (a0_0 : Int) (a0_1 : Int) (a0_2 : Int) (a0_3 : Int) : Option (Int) := (r07_Right.f a0_0 a0_1 a0_2 a0_3).bind fun t234 => (if t234 = true then (some (wrap64 ((wrap64 ((wrap64 (a0_2 + 1)) - a0_0)) * (wrap64 ((wrap64 (a0_3 + 1)) - a0_1))))) else (some 0))
set_option maxHeartbeats 8000000 in
set_option maxRecDepth 100000 in
theorem r07_Area.calls (a0_0 : Int) (a0_1 : Int) (a0_2 : Int) (a0_3 : Int) (r : Int) (w : World) (h : r07_Area.f a0_0 a0_1 a0_2 a0_3 = some r) :
  Calls Tryz.prog 60 #[.agg #[.int .i64 a0_0, .int .i64 a0_1, .int .i64 a0_2, .int .i64 a0_3]] w fun e w' => e = .returned (.int .i64 r) ∧ Below w.heap.size w w' := by
 have hu23 := Tryz.underlying23
 have HB := Ad.mk (Below.refl w.heap.size w)
 have H : ((r07_Right.f a0_0 a0_1 a0_2 a0_3).bind fun t234 => (if t234 = true then (some (wrap64 ((wrap64 ((wrap64 (a0_2 + 1)) - a0_0)) * (wrap64 ((wrap64 (a0_3 + 1)) - a0_1))))) else (some 0))) = some r := h
 clear h
 replace H := Option.bind_eq_some_iff.mp H
 obtain ⟨t234, A20, H⟩ := H
 replace H : (if t234 = true then (some (wrap64 ((wrap64 ((wrap64 (a0_2 + 1)) - a0_0)) * (wrap64 ((wrap64 (a0_3 + 1)) - a0_1))))) else (some 0)) = some r := H
 have A2 := Ad.mk A20
 clear A20
 by_cases c3 : t234 = true
 ·subst c3
  have H1 : (some (wrap64 ((wrap64 ((wrap64 (a0_2 + 1)) - a0_0)) * (wrap64 ((wrap64 (a0_3 + 1)) - a0_1))))) = some r := by rw [if_pos rfl] at H; exact H
  clear H
  have H := H1
  clear H1
  obtain rfl := Option.some.inj H
  go_enter Tryz.func60, Tryz.ntmps60
  go_wp2_with (first | ((with_reducible refine gate_dst (N := 1) rfl ?_); refine box_event ?hg (N := 1) ?hd (cs := #[.int .i64 a0_0, .int .i64 a0_1, .int .i64 a0_2, .int .i64 a0_3]) (t := 23) ?hr ?_; (case hd => rfl); (case hg => rfl); (case hr => first | (go_simp; done) | (go_simp; rfl)); intro gb233 hg w4 hbox hb; have n0_ := Ad.mk (below_step (by repeat (first | (with_reducible first | exact HB.out | apply bwA | apply bwN | apply bw1) | exact HB.out)) hb); have n1_ := Ad.mk (hbox); have n2_ := Ad.mk ((by rw [hg]; exact (below_size (by repeat (first | (with_reducible first | exact HB.out | apply bwA | apply bwN | apply bw1) | exact HB.out))) : w.heap.size ≤ gb233)); have n3_ := Ad.mk ((by rw [hg]; exact (below_size (by repeat (first | (with_reducible first | exact HB.out | apply bwA | apply bwN | apply bw1) | exact HB.out))) : w.heap.size ≤ gb233)); clear HB; have HB := n0_; have BK233 := n1_; have GW233 := n2_; have GE233 := n3_; clear n0_ n1_ n2_ n3_; clear hb hbox hg; have hcz5_0 : w4.cell? ⟨gb233, 0, none⟩ = some (.int .i64 a0_0) := (bkC BK233.out 0).trans rfl; have hcz5_1 : w4.cell? ⟨gb233, 1, none⟩ = some (.int .i64 a0_1) := (bkC BK233.out 1).trans rfl; have hcz5_2 : w4.cell? ⟨gb233, 2, none⟩ = some (.int .i64 a0_2) := (bkC BK233.out 2).trans rfl; have hcz5_3 : w4.cell? ⟨gb233, 3, none⟩ = some (.int .i64 a0_3) := (bkC BK233.out 3).trans rfl; have hfz5_0 := bkF BK233.out 0; have hfz5_1 := bkF BK233.out 1; have hfz5_2 := bkF BK233.out 2; have hfz5_3 := bkF BK233.out 3) | ((with_reducible refine gate_callee (f := 108) rfl ?_); refine goesL_ (some 4) rfl rfl Tryz.func108 (by kernel_rfl) rfl #[.agg #[.int .i64 a0_0, .int .i64 a0_1, .int .i64 a0_2, .int .i64 a0_3]] rfl (by (try simp only [List.map_toArray, List.map_cons, List.map_nil]); first | done | rfl | (simp only [List.length_drop, List.length_take]; rfl)) ?_; (with_reducible refine (r07_Right.calls a0_0 a0_1 a0_2 a0_3 true _ A2.out).mono ?_); rintro e w6 ⟨rfl, hb⟩; refine ⟨_, rfl, ?_⟩; have n0_ := Ad.mk (blk_below (g := gb233) (o := .cells #[.int .i64 a0_0, .int .i64 a0_1, .int .i64 a0_2, .int .i64 a0_3] 23 (0, 0)) (by (with_reducible repeat (first | refine bkN ?_ _ | refine bkD ?_ | refine bkA ?_ _)); exact BK233.out) hb); have n1_ := Ad.mk (below_step (by repeat (first | (with_reducible first | exact HB.out | apply bwA | apply bwN | apply bw1 | refine bwS ?_ GE233.out) | exact HB.out)) hb); clear BK233; clear HB; have BK233 := n0_; have HB := n1_; clear n0_ n1_; (try clear hb); (try clear hb2); (try clear hk); (try clear hi); have hcz7_0 : w6.cell? ⟨gb233, 0, none⟩ = some (.int .i64 a0_0) := (bkC BK233.out 0).trans rfl; have hcz7_1 : w6.cell? ⟨gb233, 1, none⟩ = some (.int .i64 a0_1) := (bkC BK233.out 1).trans rfl; have hcz7_2 : w6.cell? ⟨gb233, 2, none⟩ = some (.int .i64 a0_2) := (bkC BK233.out 2).trans rfl; have hcz7_3 : w6.cell? ⟨gb233, 3, none⟩ = some (.int .i64 a0_3) := (bkC BK233.out 3).trans rfl; have hfz7_0 := bkF BK233.out 0; have hfz7_1 := bkF BK233.out 1; have hfz7_2 := bkF BK233.out 2; have hfz7_3 := bkF BK233.out 3))
  go_ret
  exact ⟨by first | rfl | (simp [errW_none, errW_some] <;> rfl) | (simp [*, errW_none, errW_some] <;> rfl), by repeat (first | (with_reducible first | exact HB.out | apply bwA | apply bwN | apply bw1 | refine bwS ?_ GE233.out) | exact HB.out)⟩
 ·replace c3 := Bool.eq_false_iff.mpr c3
  subst c3
  have H1 : (some 0) = some r := by rw [if_neg (show ¬ (false = true) by decide)] at H; exact H
  clear H
  have H := H1
  clear H1
  obtain rfl := Option.some.inj H
  go_enter Tryz.func60, Tryz.ntmps60
  go_wp2_with (first | ((with_reducible refine gate_dst (N := 1) rfl ?_); refine box_event ?hg (N := 1) ?hd (cs := #[.int .i64 a0_0, .int .i64 a0_1, .int .i64 a0_2, .int .i64 a0_3]) (t := 23) ?hr ?_; (case hd => rfl); (case hg => rfl); (case hr => first | (go_simp; done) | (go_simp; rfl)); intro gb233 hg w8 hbox hb; have n0_ := Ad.mk (below_step (by repeat (first | (with_reducible first | exact HB.out | apply bwA | apply bwN | apply bw1) | exact HB.out)) hb); have n1_ := Ad.mk (hbox); have n2_ := Ad.mk ((by rw [hg]; exact (below_size (by repeat (first | (with_reducible first | exact HB.out | apply bwA | apply bwN | apply bw1) | exact HB.out))) : w.heap.size ≤ gb233)); have n3_ := Ad.mk ((by rw [hg]; exact (below_size (by repeat (first | (with_reducible first | exact HB.out | apply bwA | apply bwN | apply bw1) | exact HB.out))) : w.heap.size ≤ gb233)); clear HB; have HB := n0_; have BK233 := n1_; have GW233 := n2_; have GE233 := n3_; clear n0_ n1_ n2_ n3_; clear hb hbox hg; have hcz9_0 : w8.cell? ⟨gb233, 0, none⟩ = some (.int .i64 a0_0) := (bkC BK233.out 0).trans rfl; have hcz9_1 : w8.cell? ⟨gb233, 1, none⟩ = some (.int .i64 a0_1) := (bkC BK233.out 1).trans rfl; have hcz9_2 : w8.cell? ⟨gb233, 2, none⟩ = some (.int .i64 a0_2) := (bkC BK233.out 2).trans rfl; have hcz9_3 : w8.cell? ⟨gb233, 3, none⟩ = some (.int .i64 a0_3) := (bkC BK233.out 3).trans rfl; have hfz9_0 := bkF BK233.out 0; have hfz9_1 := bkF BK233.out 1; have hfz9_2 := bkF BK233.out 2; have hfz9_3 := bkF BK233.out 3) | ((with_reducible refine gate_callee (f := 108) rfl ?_); refine goesL_ (some 4) rfl rfl Tryz.func108 (by kernel_rfl) rfl #[.agg #[.int .i64 a0_0, .int .i64 a0_1, .int .i64 a0_2, .int .i64 a0_3]] rfl (by (try simp only [List.map_toArray, List.map_cons, List.map_nil]); first | done | rfl | (simp only [List.length_drop, List.length_take]; rfl)) ?_; (with_reducible refine (r07_Right.calls a0_0 a0_1 a0_2 a0_3 false _ A2.out).mono ?_); rintro e w10 ⟨rfl, hb⟩; refine ⟨_, rfl, ?_⟩; have n0_ := Ad.mk (blk_below (g := gb233) (o := .cells #[.int .i64 a0_0, .int .i64 a0_1, .int .i64 a0_2, .int .i64 a0_3] 23 (0, 0)) (by (with_reducible repeat (first | refine bkN ?_ _ | refine bkD ?_ | refine bkA ?_ _)); exact BK233.out) hb); have n1_ := Ad.mk (below_step (by repeat (first | (with_reducible first | exact HB.out | apply bwA | apply bwN | apply bw1 | refine bwS ?_ GE233.out) | exact HB.out)) hb); clear BK233; clear HB; have BK233 := n0_; have HB := n1_; clear n0_ n1_; (try clear hb); (try clear hb2); (try clear hk); (try clear hi)))
  go_ret
  exact ⟨by first | rfl | (simp [errW_none, errW_some] <;> rfl) | (simp [*, errW_none, errW_some] <;> rfl), by repeat (first | (with_reducible first | exact HB.out | apply bwA | apply bwN | apply bw1 | refine bwS ?_ GE233.out) | exact HB.out)⟩
end Go.Proofs.YthnndjlccepebaaGreatDoor.PHeavy
