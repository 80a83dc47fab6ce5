/- Contracts of the reference Open and Load at bytes that are read alone. -/
import Derived.Test.YthnndjlccepebaaGreatDoorP1
import Derived.Test.YthnndjlccepebaaGreatDoorP4
set_option linter.unusedVariables false
set_option linter.unusedSimpArgs false
namespace Go.Proofs.YthnndjlccepebaaGreatDoor.PHeavy
open Go.RowKit Go.Proofs.YthnndjlccepebaaGreatDoorW.PrintWords Go.Proofs.YthnndjlccepebaaGreatDoorW.PrintLast

set_option maxHeartbeats 8000000 in
set_option maxRecDepth 100000 in
theorem open_calls (k : Nat) (A0 : Option Addr) (c0 : Nat) (l0 : List Int) (r1 : List Int) (r2 : Int) (w : World) (hr0 : Kd.C (Kd.int .u8) w A0 l0.length l0) (hc0 : l0.length ≤ c0) (h : r03_Open.f k l0 = some (r1, r2)) :
  Calls Tryz.prog 27 #[.slice A0 l0.length c0] w fun e w' => ∃ (A1 : Option Addr) (c1 : Nat), e = .returned (.tuple #[.slice A1 r1.length c1, .int .i64 r2]) ∧ r1.length ≤ c1 ∧ (∀ W, Kd.C (Kd.int .u8) W A0 l0.length l0 → Kd.C (Kd.int .u8) W A1 r1.length r1) ∧ Below w.heap.size w w' := by
 have HO0 := Ad.mk (And.intro hr0 hc0)
 have HB := Ad.mk (Below.refl w.heap.size w)
 clear hr0 hc0
 have H : (if (l0.length : Int) < 4 then (some (([] : List Int), 14)) else (if 0 ≤ (wrap64 ((l0.length : Int) - 4)) then (if (wrap64 ((l0.length : Int) - 4)) ≤ (l0.length : Int) then ((r03_Sum.f k (l0.take ((wrap64 ((l0.length : Int) - 4)) : Int).toNat)).bind fun t110 => ((r03_Tail.f t110).bind fun t111 => (if (strOfNums t111).toList = (strOfNums (l0.drop ((wrap64 ((l0.length : Int) - 4)) : Int).toNat)).toList then (some ((l0.take ((wrap64 ((l0.length : Int) - 4)) : Int).toNat), 0)) else (some (([] : List Int), 10))))) else (none)) else (none))) = some (r1, r2) := h
 clear h
 by_cases c2 : (l0.length : Int) < 4
 ·rw [if_pos c2] at H
  have c2b0 : decide ((l0.length : Int) < 4) = true := decide_eq_true c2
  have c2b1 : decide (l0.length < 4) = true := decide_eq_true (by omega)
  clear c2
  simp only [Option.some.injEq, Prod.mk.injEq] at H
  obtain ⟨rfl, rfl⟩ := H
  go_enter Tryz.func27, Tryz.ntmps27
  go_wp2
  go_ret2
  exact ⟨none, 0, by first | rfl | (simp [errW_none, errW_some] <;> rfl) | (simp [*, errW_none, errW_some] <;> rfl), Nat.le_refl _, fun W _ => Kd.C_nil _ _, by repeat (first | (with_reducible first | exact HB.out | apply bwA | apply bwN | apply bw1) | exact HB.out)⟩
 ·rw [if_neg c2] at H
  have c2b0 : decide ((l0.length : Int) < 4) = false := decide_eq_false c2
  have c2b1 : decide (l0.length < 4) = false := decide_eq_false (by omega)
  clear c2
  obtain ⟨ji4, hji4⟩ : ∃ j_ : Int, (wrap64 ((l0.length : Int) - 4)) = j_ := ⟨_, rfl⟩
  replace H : (if 0 ≤ (ji4) then (if (ji4) ≤ (l0.length : Int) then ((r03_Sum.f k (l0.take ((ji4) : Int).toNat)).bind fun t110 => ((r03_Tail.f t110).bind fun t111 => (if (strOfNums t111).toList = (strOfNums (l0.drop ((ji4) : Int).toNat)).toList then (some ((l0.take ((ji4) : Int).toNat), 0)) else (some (([] : List Int), 10))))) else (none)) else (none)) = some (r1, r2) := by first | (rw [hji4] at H; exact H) | (simp only [hji4] at H ⊢; exact H)
  have hji4w : (IntKind.i64.wrap ((l0.length : Int) - 4)) = ji4 := (i64_w _).trans hji4
  by_cases c5 : 0 ≤ (ji4)
  ·rw [if_pos c5] at H
   have c5b0 := eq_true c5
   have c5b1 : decide (0 ≤ (ji4)) = true := decide_eq_true c5
   clear c5
   by_cases c6 : (ji4) ≤ (l0.length : Int)
   ·rw [if_pos c6] at H
    have c6b0 := eq_true c6
    have c6b1 : decide ((ji4) ≤ (l0.length : Int)) = true := decide_eq_true c6
    clear c6
    obtain ⟨y106, hy106⟩ : ∃ y_ : List Int, y_ = (l0.take ((ji4) : Int).toNat) := ⟨_, rfl⟩
    replace H : ((r03_Sum.f k y106).bind fun t110 => ((r03_Tail.f t110).bind fun t111 => (if (strOfNums t111).toList = (strOfNums (l0.drop ((ji4) : Int).toNat)).toList then (some ((l0.take ((ji4) : Int).toNat), 0)) else (some (([] : List Int), 10))))) = some (r1, r2) := by first | (rw [hy106]; with_reducible exact H) | (have H2_ := (Option.bind_some _ _).symm.trans H; rw [hy106]; with_reducible exact H2_) | (have H2_ := (Option.bind_some _ _).symm.trans H; with_reducible exact H2_) | with_reducible exact H | (rw [hy106]; exact H) | exact H
    have Ny106 := Ad.mk hy106
    clear hy106
    replace H := Option.bind_eq_some_iff.mp H
    obtain ⟨t110, A70, H⟩ := H
    replace H : ((r03_Tail.f t110).bind fun t111 => (if (strOfNums t111).toList = (strOfNums (l0.drop ((ji4) : Int).toNat)).toList then (some ((l0.take ((ji4) : Int).toNat), 0)) else (some (([] : List Int), 10)))) = some (r1, r2) := H
    have A7 := Ad.mk A70
    clear A70
    replace H := Option.bind_eq_some_iff.mp H
    obtain ⟨t111, A80, H⟩ := H
    replace H : (if (strOfNums t111).toList = (strOfNums (l0.drop ((ji4) : Int).toNat)).toList then (some ((l0.take ((ji4) : Int).toNat), 0)) else (some (([] : List Int), 10))) = some (r1, r2) := H
    have A8 := Ad.mk A80
    clear A80
    have c9b0 := eq_true (of_decide_eq_true (by first | (with_reducible assumption) | assumption) : 0 ≤ (ji4))
    have c10b0 := eq_true (of_decide_eq_true (by first | (with_reducible assumption) | assumption) : (ji4) ≤ (l0.length : Int))
    obtain ⟨y114, hy114⟩ : ∃ y_ : List Int, y_ = (l0.drop ((ji4) : Int).toNat) := ⟨_, rfl⟩
    replace H : (if (strOfNums t111).toList = (strOfNums y114).toList then (some ((l0.take ((ji4) : Int).toNat), 0)) else (some (([] : List Int), 10))) = some (r1, r2) := by first | (rw [hy114]; with_reducible exact H) | (have H2_ := (Option.bind_some _ _).symm.trans H; rw [hy114]; with_reducible exact H2_) | (have H2_ := (Option.bind_some _ _).symm.trans H; with_reducible exact H2_) | with_reducible exact H | (rw [hy114]; exact H) | exact H
    have Ny114 := Ad.mk hy114
    clear hy114
    by_cases c11 : (strOfNums t111).toList = (strOfNums y114).toList
    ·rw [if_pos c11] at H
     have c11b0 : ((strOfNums t111).toList == (strOfNums y114).toList) = true := beq_iff_eq.mpr c11
     have c11b1 : ((strOfNums t111).toList != (strOfNums y114).toList) = false := bne_eq_false_iff_eq.mpr c11
     clear c11
     have c12b0 := eq_true (of_decide_eq_true (by first | (with_reducible assumption) | assumption) : (ji4) ≤ (l0.length : Int))
     obtain ⟨y118, hy118⟩ : ∃ y_ : List Int, y_ = (l0.take ((ji4) : Int).toNat) := ⟨_, rfl⟩
     replace H : (some (y118, 0)) = some (r1, r2) := by first | (rw [hy118]; with_reducible exact H) | (have H2_ := (Option.bind_some _ _).symm.trans H; rw [hy118]; with_reducible exact H2_) | (have H2_ := (Option.bind_some _ _).symm.trans H; with_reducible exact H2_) | with_reducible exact H | (rw [hy118]; exact H) | exact H
     have Ny118 := Ad.mk hy118
     clear hy118
     simp only [Option.some.injEq, Prod.mk.injEq] at H
     obtain ⟨rfl, rfl⟩ := H
     go_enter Tryz.func27, Tryz.ntmps27
     try go_wp2
     have n0_ := Ad.mk (And.intro (Kd.C_drew HO0.out.1) HO0.out.2)
     have n2_ := Ad.mk (bw1 HB.out)
     clear HO0
     clear HB
     have HO0 := n0_
     have HB := n2_
     (try clear n0_); (try clear n1_); (try clear n2_); (try clear n3_); (try clear n4_); (try clear n5_)
     have q15 : ((ji4) : Int) ≤ ((l0.length : Int) : Int) := of_decide_eq_true (by first | (with_reducible assumption) | assumption)
     obtain ⟨i015, hi015, _, hsz15, _⟩ := info_parts info5
     have hroom15 : l0.length ≤ c0 := HO0.out.2
     have hC15 : Kd.C (Kd.int .u8) _ A0 l0.length l0 := HO0.out.1
     have hcut15 := cut_to (P := Tryz.prog) 27 5 .i64 Tryz.underlying27 hi015 A0 l0.length c0 (ji4) (of_decide_eq_true (by first | (with_reducible assumption) | assumption)) q15 hroom15
     have hr15 := Kd.C_take (m := ((ji4) : Int).toNat) hC15 (by omega)
     have hy15 : y106.length = ((ji4) : Int).toNat := (by rw [Ny106.out, List.length_take]; omega)
     rw [← Ny106.out] at hr15
     rw [← hy15] at hcut15
     have HR109 := Ad.mk hr15
     have HC109 := Ad.mk (show y106.length ≤ c0 from by omega)
     clear hr15 hC15 hroom15 hi015 hsz15
     have KY15 := Ad.mk hy15
     clear hy15
     have KL15 := Ad.mk (show ((ji4) : Int).toNat ≤ l0.length from by omega)
     replace q15 := eq_true q15
     have q16 : ((ji4) : Int) ≤ ((l0.length : Int) : Int) := of_decide_eq_true (by first | (with_reducible assumption) | assumption)
     obtain ⟨i016, hi016, _, hsz16, _⟩ := info_parts info5
     have hroom16 : l0.length ≤ c0 := HO0.out.2
     have hC16 : Kd.C (Kd.int .u8) _ A0 l0.length l0 := HO0.out.1
     have q016 : (0 : Int) ≤ ((ji4) : Int) := of_decide_eq_true (by first | (with_reducible assumption) | assumption)
     have hcut16 := cut_from (P := Tryz.prog) 27 5 .i64 Tryz.underlying27 hi016 1 hsz16 A0 l0.length c0 (ji4) q016 q16
     have hr16 := Kd.C_drop (m := ((ji4) : Int).toNat) (c := c0) hC16 (by omega) hroom16
     obtain ⟨A16, hA16⟩ : ∃ A1, A1 = (if c0 = ((ji4) : Int).toNat then A0 else (A0 : Option Addr).map (·.add (((ji4) : Int).toNat * 1))) := ⟨_, rfl⟩
     obtain ⟨c16, hc16⟩ : ∃ c1, c1 = c0 - ((ji4) : Int).toNat := ⟨_, rfl⟩
     have hy16 : y114.length = l0.length - ((ji4) : Int).toNat := (by rw [Ny114.out, List.length_drop] <;> omega)
     rw [show (l0).drop ((ji4) : Int).toNat = y114 from Ny114.out.symm] at hr16
     replace hr16 : Kd.C (Kd.int .u8) _ A16 y114.length y114 := (by rw [hA16]; exact hr16)
     rw [← hy16, ← hA16, ← hc16] at hcut16
     have HR117 := Ad.mk hr16
     have HC117 := Ad.mk (show y114.length ≤ c16 from by rw [hy16, hc16]; exact Nat.sub_le_sub_right hroom16 _)
     clear hr16 hC16 hroom16 hi016 hsz16 hc16
     have KY16 := Ad.mk hy16
     have KA16 := Ad.mk hA16
     clear hy16 hA16
     have KL16 := Ad.mk (show ((ji4) : Int).toNat ≤ l0.length from by omega)
     replace q16 := eq_true q16
     refine start_ (n := 11) (S := fun w' => Kd.C (Kd.int .u8) w' A16 y114.length y114) (ds := []) #[false, false, false, false, false, false, false, false, false, false, false] (by kernel_rfl) rfl rfl (by repeat (first | (with_reducible exact HR117.out) | (with_reducible refine Kd.C_alloc ?_ _) | (with_reducible refine Kd.C_drewN ?_ _) | (with_reducible refine Kd.C_drew ?_) | exact HR117.out)) (fun hHeld => ?_); refine with_tabW r03_Open.tab4 r03_Open.bits4 (fun HT_ HW_ => ?_)
     generalize w.drew = w14 at HO0 HB HR109 HR117 hHeld ⊢
     refine pure_ (i := 0) (N := some 11) (v := ?_) (a' := ?_) #[true, false, false, false, false, false, false, false, false, false, false] rfl rfl (any_of HT_.out (by kernel_rfl)) (fun _ _ _ h => h) (Or.inl ⟨by rfl, ?_⟩) ?_ ?_
     rotate_left
     ·intro w'
      go_simp
      with_reducible rfl
     rotate_left
     ·simp only [Act.put, List.setIfInBounds_toArray, List.set_cons_zero, List.set_cons_succ, i64_w]
      rfl
     refine pure_ (i := 1) (N := some 12) (v := ?_) (a' := ?_) #[true, true, false, false, false, false, false, false, false, false, false] rfl rfl (any_of HT_.out (by kernel_rfl)) (fun _ _ _ h => h) (Or.inl ⟨by rfl, ?_⟩) ?_ ?_
     rotate_left
     ·intro w'
      go_simp
      with_reducible rfl
     rotate_left
     ·simp only [Act.put, List.setIfInBounds_toArray, List.set_cons_zero, List.set_cons_succ, i64_w]
      rfl
     refine pure_ (i := 2) (N := some 13) (v := ?_) (a' := ?_) #[true, true, true, false, false, false, false, false, false, false, false] rfl rfl (any_of HT_.out (by kernel_rfl)) (fun _ _ _ h => h) (Or.inl ⟨by rfl, ?_⟩) ?_ ?_
     rotate_left
     ·intro w'
      go_simp
      with_reducible rfl
     rotate_left
     ·simp only [Act.put, List.setIfInBounds_toArray, List.set_cons_zero, List.set_cons_succ, i64_w]
      rfl
     refine pure_ (i := 6) (N := some 17) (v := ?_) (a' := ?_) #[true, true, true, false, false, false, true, false, false, false, false] rfl rfl (any_of HT_.out (by kernel_rfl)) (fun _ _ _ h => h) (Or.inl ⟨by rfl, ?_⟩) ?_ ?_
     rotate_left
     ·intro w'
      go_simp
      with_reducible rfl
     rotate_left
     ·simp only [Act.put, List.setIfInBounds_toArray, List.set_cons_zero, List.set_cons_succ, i64_w]
      rfl
     refine pure_ (i := 7) (N := some 18) (v := ?_) (a' := ?_) #[true, true, true, false, false, false, true, true, false, false, false] rfl rfl (any_of HT_.out (by kernel_rfl)) (fun _ _ _ h => h) (Or.inl ⟨by rfl, ?_⟩) ?_ ?_
     rotate_left
     ·intro w'
      go_simp
      with_reducible rfl
     rotate_left
     ·simp only [Act.put, List.setIfInBounds_toArray, List.set_cons_zero, List.set_cons_succ, i64_w]
      rfl
     refine pure_ (i := 8) (N := some 19) (v := ?_) (a' := ?_) #[true, true, true, false, false, false, true, true, true, false, false] rfl rfl (any_of HT_.out (by kernel_rfl)) (fun _ _ _ h => h) (Or.inl ⟨by rfl, ?_⟩) ?_ ?_
     rotate_left
     ·intro w'
      go_simp
      with_reducible rfl
     rotate_left
     ·simp only [Act.put, List.setIfInBounds_toArray, List.set_cons_zero, List.set_cons_succ, i64_w]
      rfl
     refine take_ (i := 9) (N := some 20) (v := ?_) (a' := ?_) #[true, true, true, false, false, false, true, true, true, true, false] rfl rfl (take_ofW HT_.out HW_.out (by kernel_rfl)) (fun _ _ _ h => h) (Or.inl ⟨by rfl, ?_⟩) hHeld ?_ ?_
     rotate_left
     ·intro w' hS
      have hcv := Kd.C_string (P := Tryz.prog) (A := A16) (c := c16) Tryz.underlying27 Tryz.underlying5 Tryz.underlying9 hS
      go_simp
      with_reducible rfl
     rotate_left
     ·simp only [Act.put, List.setIfInBounds_toArray, List.set_cons_zero, List.set_cons_succ, i64_w]
      rfl
     refine one_ (i := 3) (N := some 14) #[true, true, true, true, false, false, true, true, true, true, false] rfl rfl (one_of HT_.out (by kernel_rfl)) (by decide) (fun K hK => ?_)
     refine goes_ Tryz.func50 (by kernel_rfl) rfl #[.slice A0 y106.length c0] (by rfl) rfl rfl (by (try simp only [List.map_toArray, List.map_cons, List.map_nil]); first | done | rfl | (simp only [List.length_drop, List.length_take]; rfl)) ?_
     with_reducible refine (r03_Sum.calls k _ _ y106 t110 _ ?side1 ?side2 A7.out).mono ?_
     (case side1 => repeat (first | exact (by repeat (first | (with_reducible exact HR109.out) | (with_reducible refine Kd.C_alloc ?_ _) | (with_reducible refine Kd.C_drewN ?_ _) | (with_reducible refine Kd.C_drew ?_) | exact HR109.out)) | (with_reducible refine Kd.C_alloc ?_ _) | (with_reducible refine Kd.C_drewN ?_ _) | (with_reducible refine Kd.C_drew ?_)))
     (case side2 => exact HC109.out)
     rintro e w' ⟨rfl, ⟨nd, rfl⟩⟩
     refine ⟨_, rfl, ?_⟩
     refine hK.out _ _ (by repeat (first | (with_reducible exact HR117.out) | (with_reducible refine Kd.C_alloc ?_ _) | (with_reducible refine Kd.C_drewN ?_ _) | (with_reducible refine Kd.C_drew ?_) | exact HR117.out)) (fun hHeld => ?_)
     clear hK K
     refine norm_ (a' := ?_) ?_ ?_
     rotate_left
     ·show Act.put _ (some 14) _ = _
      simp only [Act.put, List.setIfInBounds_toArray, List.set_cons_zero, List.set_cons_succ, i64_w]
      rfl
     refine one_ (i := 4) (N := some 15) #[true, true, true, true, true, false, true, true, true, true, false] rfl rfl (one_of HT_.out (by kernel_rfl)) (by decide) (fun K hK => ?_)
     refine goes_ Tryz.func49 (by kernel_rfl) rfl #[.int .u32 t110] (by rfl) rfl rfl (by (try simp only [List.map_toArray, List.map_cons, List.map_nil]); first | done | rfl | (simp only [List.length_drop, List.length_take]; rfl)) ?_
     with_reducible refine (r03_Tail.calls t110 t111 _ A8.out).mono ?_
     rintro e w17 ⟨v112, rfl, ho0, hb⟩
     refine ⟨_, rfl, ?_⟩
     have n0_ := Ad.mk (And.intro (Kd.C_below (by repeat (first | (with_reducible exact HO0.out.1) | (with_reducible refine Kd.C_alloc ?_ _) | (with_reducible refine Kd.C_drewN ?_ _) | (with_reducible refine Kd.C_drew ?_) | exact HO0.out.1)) hb) HO0.out.2)
     have n1_ := Ad.mk ho0
     have n2_ := Ad.mk (Kd.C_below (by repeat (first | (with_reducible exact HR109.out) | (with_reducible refine Kd.C_alloc ?_ _) | (with_reducible refine Kd.C_drewN ?_ _) | (with_reducible refine Kd.C_drew ?_) | exact HR109.out)) hb)
     have n3_ := Ad.mk (Kd.C_below (by repeat (first | (with_reducible exact HR117.out) | (with_reducible refine Kd.C_alloc ?_ _) | (with_reducible refine Kd.C_drewN ?_ _) | (with_reducible refine Kd.C_drew ?_) | exact HR117.out)) hb)
     have n5_ := Ad.mk (below_step (by repeat (first | (with_reducible first | exact HB.out | apply bwA | apply bwN | apply bw1) | exact HB.out)) hb)
     clear HO0
     clear HR109
     clear HR117
     clear HB
     have HO0 := n0_
     have HO113 := n1_
     have HR109 := n2_
     have HR117 := n3_
     have HB := n5_
     (try clear n0_); (try clear n1_); (try clear n2_); (try clear n3_); (try clear n4_); (try clear n5_)
     (try clear hb)
     (try clear hb2)
     (try clear hk)
     (try clear hi)
     (try clear ho0)
     refine hK.out _ _ (by repeat (first | (with_reducible exact HR117.out) | (with_reducible refine Kd.C_alloc ?_ _) | (with_reducible refine Kd.C_drewN ?_ _) | (with_reducible refine Kd.C_drew ?_) | exact HR117.out)) (fun hHeld => ?_)
     clear hK K
     refine norm_ (a' := ?_) ?_ ?_
     rotate_left
     ·show Act.put _ (some 15) _ = _
      simp only [Act.put, List.setIfInBounds_toArray, List.set_cons_zero, List.set_cons_succ, i64_w]
      rfl
     refine one_ (i := 5) (N := some 16) #[true, true, true, true, true, true, true, true, true, true, false] rfl rfl (one_of HT_.out (by kernel_rfl)) (by decide) (fun K hK => ?_)
     have hcv18 := own_string (P := Tryz.prog) Tryz.underlying27 Tryz.underlying5 Tryz.underlying9 (Kd.own_of_R HO113.out)
     refine value_ (w1 := ?_) (v := ?_) (by rfl) rfl ?_ ?_
     rotate_left 2
     ·go_simp
      constructor
      ·rfl
      ·rfl
     clear hcv18
     refine hK.out _ _ (by repeat (first | (with_reducible exact HR117.out) | (with_reducible refine Kd.C_alloc ?_ _) | (with_reducible refine Kd.C_drewN ?_ _) | (with_reducible refine Kd.C_drew ?_) | exact HR117.out)) (fun hHeld => ?_)
     clear hK K
     refine norm_ (a' := ?_) ?_ ?_
     rotate_left
     ·show Act.put _ (some 16) _ = _
      simp only [Act.put, List.setIfInBounds_toArray, List.set_cons_zero, List.set_cons_succ, i64_w]
      rfl
     refine pure_ (i := 10) (N := some 21) (v := ?_) (a' := ?_) #[true, true, true, true, true, true, true, true, true, true, true] rfl rfl (any_of HT_.out (by kernel_rfl)) (fun _ _ _ h => h) (Or.inl ⟨by rfl, ?_⟩) ?_ ?_
     rotate_left
     ·intro w'
      go_simp
      with_reducible rfl
     rotate_left
     ·simp only [Act.put, List.setIfInBounds_toArray, List.set_cons_zero, List.set_cons_succ, i64_w]
      rfl
     refine done_ (done_of HT_.out (by kernel_rfl)) ?_
     have e118 : y118 = y106 := Ny118.out.trans Ny106.out.symm
     subst e118
     have q21 : ((ji4) : Int) ≤ ((l0.length : Int) : Int) := of_decide_eq_true (by first | (with_reducible assumption) | assumption)
     obtain ⟨i021, hi021, _, hsz21, _⟩ := info_parts info5
     have hcut21 := cut_to (P := Tryz.prog) 27 5 .i64 Tryz.underlying27 hi021 A0 l0.length c0 (ji4) (of_decide_eq_true (by first | (with_reducible assumption) | assumption)) q21 HO0.out.2
     have HC21 : Ad (∀ W, Kd.C (Kd.int .u8) W A0 l0.length l0 → Kd.C (Kd.int .u8) W A0 y118.length y118) := ⟨fun W hW => by have h21 := Kd.C_take (m := ((ji4) : Int).toNat) hW (by omega); have hy21 : y118.length = ((ji4) : Int).toNat := (by rw [Ny118.out, List.length_take]; omega); rw [← Ny118.out] at h21; exact h21⟩
     have HO21 := Ad.mk HO0.out.2
     have hy21 : y118.length = ((ji4) : Int).toNat := (by rw [Ny118.out, List.length_take]; omega)
     have HL21 := Ad.mk (show y118.length ≤ l0.length from by omega)
     rw [← hy21] at hcut21
     clear hy21 hi021 hsz21 HO0
     replace q21 := eq_true q21
     try go_wp2
     go_ret2
     exact ⟨A0, c0, by first | rfl | (simp [errW_none, errW_some] <;> rfl) | (simp only [← hji4]; first | rfl | (simp [errW_none, errW_some] <;> rfl)) | (simp [*, errW_none, errW_some] <;> rfl), by have := HL21.out; have := HO21.out; omega, HC21.out, by repeat (first | (with_reducible first | exact HB.out | apply bwA | apply bwN | apply bw1) | exact HB.out)⟩
    ·rw [if_neg c11] at H
     have c11b0 : ((strOfNums t111).toList == (strOfNums y114).toList) = false := beq_eq_false_iff_ne.mpr c11
     have c11b1 : ((strOfNums t111).toList != (strOfNums y114).toList) = true := bne_iff_ne.mpr c11
     simp only [Option.some.injEq, Prod.mk.injEq] at H
     obtain ⟨rfl, rfl⟩ := H
     go_enter Tryz.func27, Tryz.ntmps27
     try go_wp2
     have n0_ := Ad.mk (And.intro (Kd.C_drew HO0.out.1) HO0.out.2)
     have n2_ := Ad.mk (bw1 HB.out)
     clear HO0
     clear HB
     have HO0 := n0_
     have HB := n2_
     (try clear n0_); (try clear n1_); (try clear n2_); (try clear n3_); (try clear n4_); (try clear n5_)
     have q24 : ((ji4) : Int) ≤ ((l0.length : Int) : Int) := of_decide_eq_true (by first | (with_reducible assumption) | assumption)
     obtain ⟨i024, hi024, _, hsz24, _⟩ := info_parts info5
     have hroom24 : l0.length ≤ c0 := HO0.out.2
     have hC24 : Kd.C (Kd.int .u8) _ A0 l0.length l0 := HO0.out.1
     have hcut24 := cut_to (P := Tryz.prog) 27 5 .i64 Tryz.underlying27 hi024 A0 l0.length c0 (ji4) (of_decide_eq_true (by first | (with_reducible assumption) | assumption)) q24 hroom24
     have hr24 := Kd.C_take (m := ((ji4) : Int).toNat) hC24 (by omega)
     have hy24 : y106.length = ((ji4) : Int).toNat := (by rw [Ny106.out, List.length_take]; omega)
     rw [← Ny106.out] at hr24
     rw [← hy24] at hcut24
     have HR109 := Ad.mk hr24
     have HC109 := Ad.mk (show y106.length ≤ c0 from by omega)
     clear hr24 hC24 hroom24 hi024 hsz24
     have KY24 := Ad.mk hy24
     clear hy24
     have KL24 := Ad.mk (show ((ji4) : Int).toNat ≤ l0.length from by omega)
     replace q24 := eq_true q24
     have q25 : ((ji4) : Int) ≤ ((l0.length : Int) : Int) := of_decide_eq_true (by first | (with_reducible assumption) | assumption)
     obtain ⟨i025, hi025, _, hsz25, _⟩ := info_parts info5
     have hroom25 : l0.length ≤ c0 := HO0.out.2
     have hC25 : Kd.C (Kd.int .u8) _ A0 l0.length l0 := HO0.out.1
     have q025 : (0 : Int) ≤ ((ji4) : Int) := of_decide_eq_true (by first | (with_reducible assumption) | assumption)
     have hcut25 := cut_from (P := Tryz.prog) 27 5 .i64 Tryz.underlying27 hi025 1 hsz25 A0 l0.length c0 (ji4) q025 q25
     have hr25 := Kd.C_drop (m := ((ji4) : Int).toNat) (c := c0) hC25 (by omega) hroom25
     obtain ⟨A25, hA25⟩ : ∃ A1, A1 = (if c0 = ((ji4) : Int).toNat then A0 else (A0 : Option Addr).map (·.add (((ji4) : Int).toNat * 1))) := ⟨_, rfl⟩
     obtain ⟨c25, hc25⟩ : ∃ c1, c1 = c0 - ((ji4) : Int).toNat := ⟨_, rfl⟩
     have hy25 : y114.length = l0.length - ((ji4) : Int).toNat := (by rw [Ny114.out, List.length_drop] <;> omega)
     rw [show (l0).drop ((ji4) : Int).toNat = y114 from Ny114.out.symm] at hr25
     replace hr25 : Kd.C (Kd.int .u8) _ A25 y114.length y114 := (by rw [hA25]; exact hr25)
     rw [← hy25, ← hA25, ← hc25] at hcut25
     have HR117 := Ad.mk hr25
     have HC117 := Ad.mk (show y114.length ≤ c25 from by rw [hy25, hc25]; exact Nat.sub_le_sub_right hroom25 _)
     clear hr25 hC25 hroom25 hi025 hsz25 hc25
     have KY25 := Ad.mk hy25
     have KA25 := Ad.mk hA25
     clear hy25 hA25
     have KL25 := Ad.mk (show ((ji4) : Int).toNat ≤ l0.length from by omega)
     replace q25 := eq_true q25
     refine start_ (n := 11) (S := fun w' => Kd.C (Kd.int .u8) w' A25 y114.length y114) (ds := []) #[false, false, false, false, false, false, false, false, false, false, false] (by kernel_rfl) rfl rfl (by repeat (first | (with_reducible exact HR117.out) | (with_reducible refine Kd.C_alloc ?_ _) | (with_reducible refine Kd.C_drewN ?_ _) | (with_reducible refine Kd.C_drew ?_) | exact HR117.out)) (fun hHeld => ?_); refine with_tabW r03_Open.tab4 r03_Open.bits4 (fun HT_ HW_ => ?_)
     generalize w.drew = w23 at HO0 HB HR109 HR117 hHeld ⊢
     refine pure_ (i := 0) (N := some 11) (v := ?_) (a' := ?_) #[true, false, false, false, false, false, false, false, false, false, false] rfl rfl (any_of HT_.out (by kernel_rfl)) (fun _ _ _ h => h) (Or.inl ⟨by rfl, ?_⟩) ?_ ?_
     rotate_left
     ·intro w'
      go_simp
      with_reducible rfl
     rotate_left
     ·simp only [Act.put, List.setIfInBounds_toArray, List.set_cons_zero, List.set_cons_succ, i64_w]
      rfl
     refine pure_ (i := 1) (N := some 12) (v := ?_) (a' := ?_) #[true, true, false, false, false, false, false, false, false, false, false] rfl rfl (any_of HT_.out (by kernel_rfl)) (fun _ _ _ h => h) (Or.inl ⟨by rfl, ?_⟩) ?_ ?_
     rotate_left
     ·intro w'
      go_simp
      with_reducible rfl
     rotate_left
     ·simp only [Act.put, List.setIfInBounds_toArray, List.set_cons_zero, List.set_cons_succ, i64_w]
      rfl
     refine pure_ (i := 2) (N := some 13) (v := ?_) (a' := ?_) #[true, true, true, false, false, false, false, false, false, false, false] rfl rfl (any_of HT_.out (by kernel_rfl)) (fun _ _ _ h => h) (Or.inl ⟨by rfl, ?_⟩) ?_ ?_
     rotate_left
     ·intro w'
      go_simp
      with_reducible rfl
     rotate_left
     ·simp only [Act.put, List.setIfInBounds_toArray, List.set_cons_zero, List.set_cons_succ, i64_w]
      rfl
     refine pure_ (i := 6) (N := some 17) (v := ?_) (a' := ?_) #[true, true, true, false, false, false, true, false, false, false, false] rfl rfl (any_of HT_.out (by kernel_rfl)) (fun _ _ _ h => h) (Or.inl ⟨by rfl, ?_⟩) ?_ ?_
     rotate_left
     ·intro w'
      go_simp
      with_reducible rfl
     rotate_left
     ·simp only [Act.put, List.setIfInBounds_toArray, List.set_cons_zero, List.set_cons_succ, i64_w]
      rfl
     refine pure_ (i := 7) (N := some 18) (v := ?_) (a' := ?_) #[true, true, true, false, false, false, true, true, false, false, false] rfl rfl (any_of HT_.out (by kernel_rfl)) (fun _ _ _ h => h) (Or.inl ⟨by rfl, ?_⟩) ?_ ?_
     rotate_left
     ·intro w'
      go_simp
      with_reducible rfl
     rotate_left
     ·simp only [Act.put, List.setIfInBounds_toArray, List.set_cons_zero, List.set_cons_succ, i64_w]
      rfl
     refine pure_ (i := 8) (N := some 19) (v := ?_) (a' := ?_) #[true, true, true, false, false, false, true, true, true, false, false] rfl rfl (any_of HT_.out (by kernel_rfl)) (fun _ _ _ h => h) (Or.inl ⟨by rfl, ?_⟩) ?_ ?_
     rotate_left
     ·intro w'
      go_simp
      with_reducible rfl
     rotate_left
     ·simp only [Act.put, List.setIfInBounds_toArray, List.set_cons_zero, List.set_cons_succ, i64_w]
      rfl
     refine take_ (i := 9) (N := some 20) (v := ?_) (a' := ?_) #[true, true, true, false, false, false, true, true, true, true, false] rfl rfl (take_ofW HT_.out HW_.out (by kernel_rfl)) (fun _ _ _ h => h) (Or.inl ⟨by rfl, ?_⟩) hHeld ?_ ?_
     rotate_left
     ·intro w' hS
      have hcv := Kd.C_string (P := Tryz.prog) (A := A25) (c := c25) Tryz.underlying27 Tryz.underlying5 Tryz.underlying9 hS
      go_simp
      with_reducible rfl
     rotate_left
     ·simp only [Act.put, List.setIfInBounds_toArray, List.set_cons_zero, List.set_cons_succ, i64_w]
      rfl
     refine one_ (i := 3) (N := some 14) #[true, true, true, true, false, false, true, true, true, true, false] rfl rfl (one_of HT_.out (by kernel_rfl)) (by decide) (fun K hK => ?_)
     refine goes_ Tryz.func50 (by kernel_rfl) rfl #[.slice A0 y106.length c0] (by rfl) rfl rfl (by (try simp only [List.map_toArray, List.map_cons, List.map_nil]); first | done | rfl | (simp only [List.length_drop, List.length_take]; rfl)) ?_
     with_reducible refine (r03_Sum.calls k _ _ y106 t110 _ ?side1 ?side2 A7.out).mono ?_
     (case side1 => repeat (first | exact (by repeat (first | (with_reducible exact HR109.out) | (with_reducible refine Kd.C_alloc ?_ _) | (with_reducible refine Kd.C_drewN ?_ _) | (with_reducible refine Kd.C_drew ?_) | exact HR109.out)) | (with_reducible refine Kd.C_alloc ?_ _) | (with_reducible refine Kd.C_drewN ?_ _) | (with_reducible refine Kd.C_drew ?_)))
     (case side2 => exact HC109.out)
     rintro e w' ⟨rfl, ⟨nd, rfl⟩⟩
     refine ⟨_, rfl, ?_⟩
     refine hK.out _ _ (by repeat (first | (with_reducible exact HR117.out) | (with_reducible refine Kd.C_alloc ?_ _) | (with_reducible refine Kd.C_drewN ?_ _) | (with_reducible refine Kd.C_drew ?_) | exact HR117.out)) (fun hHeld => ?_)
     clear hK K
     refine norm_ (a' := ?_) ?_ ?_
     rotate_left
     ·show Act.put _ (some 14) _ = _
      simp only [Act.put, List.setIfInBounds_toArray, List.set_cons_zero, List.set_cons_succ, i64_w]
      rfl
     refine one_ (i := 4) (N := some 15) #[true, true, true, true, true, false, true, true, true, true, false] rfl rfl (one_of HT_.out (by kernel_rfl)) (by decide) (fun K hK => ?_)
     refine goes_ Tryz.func49 (by kernel_rfl) rfl #[.int .u32 t110] (by rfl) rfl rfl (by (try simp only [List.map_toArray, List.map_cons, List.map_nil]); first | done | rfl | (simp only [List.length_drop, List.length_take]; rfl)) ?_
     with_reducible refine (r03_Tail.calls t110 t111 _ A8.out).mono ?_
     rintro e w26 ⟨v112, rfl, ho0, hb⟩
     refine ⟨_, rfl, ?_⟩
     have n0_ := Ad.mk (And.intro (Kd.C_below (by repeat (first | (with_reducible exact HO0.out.1) | (with_reducible refine Kd.C_alloc ?_ _) | (with_reducible refine Kd.C_drewN ?_ _) | (with_reducible refine Kd.C_drew ?_) | exact HO0.out.1)) hb) HO0.out.2)
     have n1_ := Ad.mk ho0
     have n2_ := Ad.mk (Kd.C_below (by repeat (first | (with_reducible exact HR109.out) | (with_reducible refine Kd.C_alloc ?_ _) | (with_reducible refine Kd.C_drewN ?_ _) | (with_reducible refine Kd.C_drew ?_) | exact HR109.out)) hb)
     have n3_ := Ad.mk (Kd.C_below (by repeat (first | (with_reducible exact HR117.out) | (with_reducible refine Kd.C_alloc ?_ _) | (with_reducible refine Kd.C_drewN ?_ _) | (with_reducible refine Kd.C_drew ?_) | exact HR117.out)) hb)
     have n5_ := Ad.mk (below_step (by repeat (first | (with_reducible first | exact HB.out | apply bwA | apply bwN | apply bw1) | exact HB.out)) hb)
     clear HO0
     clear HR109
     clear HR117
     clear HB
     have HO0 := n0_
     have HO113 := n1_
     have HR109 := n2_
     have HR117 := n3_
     have HB := n5_
     (try clear n0_); (try clear n1_); (try clear n2_); (try clear n3_); (try clear n4_); (try clear n5_)
     (try clear hb)
     (try clear hb2)
     (try clear hk)
     (try clear hi)
     (try clear ho0)
     refine hK.out _ _ (by repeat (first | (with_reducible exact HR117.out) | (with_reducible refine Kd.C_alloc ?_ _) | (with_reducible refine Kd.C_drewN ?_ _) | (with_reducible refine Kd.C_drew ?_) | exact HR117.out)) (fun hHeld => ?_)
     clear hK K
     refine norm_ (a' := ?_) ?_ ?_
     rotate_left
     ·show Act.put _ (some 15) _ = _
      simp only [Act.put, List.setIfInBounds_toArray, List.set_cons_zero, List.set_cons_succ, i64_w]
      rfl
     refine one_ (i := 5) (N := some 16) #[true, true, true, true, true, true, true, true, true, true, false] rfl rfl (one_of HT_.out (by kernel_rfl)) (by decide) (fun K hK => ?_)
     have hcv27 := own_string (P := Tryz.prog) Tryz.underlying27 Tryz.underlying5 Tryz.underlying9 (Kd.own_of_R HO113.out)
     refine value_ (w1 := ?_) (v := ?_) (by rfl) rfl ?_ ?_
     rotate_left 2
     ·go_simp
      constructor
      ·rfl
      ·rfl
     clear hcv27
     refine hK.out _ _ (by repeat (first | (with_reducible exact HR117.out) | (with_reducible refine Kd.C_alloc ?_ _) | (with_reducible refine Kd.C_drewN ?_ _) | (with_reducible refine Kd.C_drew ?_) | exact HR117.out)) (fun hHeld => ?_)
     clear hK K
     refine norm_ (a' := ?_) ?_ ?_
     rotate_left
     ·show Act.put _ (some 16) _ = _
      simp only [Act.put, List.setIfInBounds_toArray, List.set_cons_zero, List.set_cons_succ, i64_w]
      rfl
     refine pure_ (i := 10) (N := some 21) (v := ?_) (a' := ?_) #[true, true, true, true, true, true, true, true, true, true, true] rfl rfl (any_of HT_.out (by kernel_rfl)) (fun _ _ _ h => h) (Or.inl ⟨by rfl, ?_⟩) ?_ ?_
     rotate_left
     ·intro w'
      go_simp
      with_reducible rfl
     rotate_left
     ·simp only [Act.put, List.setIfInBounds_toArray, List.set_cons_zero, List.set_cons_succ, i64_w]
      rfl
     refine done_ (done_of HT_.out (by kernel_rfl)) ?_
     try go_wp2
     go_ret2
     exact ⟨none, 0, by first | rfl | (simp [errW_none, errW_some] <;> rfl) | (simp [*, errW_none, errW_some] <;> rfl), Nat.le_refl _, fun W _ => Kd.C_nil _ _, by repeat (first | (with_reducible first | exact HB.out | apply bwA | apply bwN | apply bw1) | exact HB.out)⟩
   ·rw [if_neg c6] at H
    exact absurd H (by simp)
  ·rw [if_neg c5] at H
   exact absurd H (by simp)
end Go.Proofs.YthnndjlccepebaaGreatDoor.PHeavy
namespace Go.Proofs.YthnndjlccepebaaGreatDoor.PHeavy
open Go.RowKit Go.Proofs.YthnndjlccepebaaGreatDoorW.PrintWords Go.Proofs.YthnndjlccepebaaGreatDoorW.PrintLast

set_option maxHeartbeats 8000000 in
set_option maxRecDepth 100000 in
theorem load_calls (k : Nat) (P0_ : Nat → Prop) (A0 : Option Addr) (c0 : Nat) (l0 : List Int) (r1 : Int) (r2 : Int) (r3 : List Int) (r4 : List Int) (r5 : Bool) (w0 w : World) (hB : Below w0.heap.size w0 w) (hr0 : Kd.C (Kd.int .u8) w0 A0 l0.length l0) (hc0 : l0.length ≤ c0) (h : r14_Load.f k l0 = some (r1, r2, r3, r4, r5)) :
  Calls Tryz.prog 14 #[.slice A0 l0.length c0] w fun e w' => ∃ v2_ v3_ : Value, e = .returned (.tuple #[.agg #[.int .i64 r1, .int .i64 r2, v2_], v3_, .bool r5]) ∧ Kd.R (Kd.int .i64) 2 w' w0.heap.size (fun k_ => (P0_ k_ ∨ w.heap.size ≤ k_)) v2_ r3 ∧ Kd.R (Kd.int .i64) 3 w' w0.heap.size (fun k_ => (P0_ k_ ∨ w.heap.size ≤ k_)) v3_ r4 ∧ Below w0.heap.size w0 w' ∧ Kept w w' (fun k_ => P0_ k_) := by
 have hu53 := Tryz.underlying53
 have hu23 := Tryz.underlying23
 have HO0 := Ad.mk (And.intro hr0 hc0)
 have HK := Ad.mk (Kept.refl w (fun k_ => P0_ k_))
 have HW0 := Ad.mk hB.size
 have HB := Ad.mk hB
 clear hB
 have H : ((r03_Open.f k l0).bind fun bt253 => (if bt253.2 = 0 then ((r13_Get.f k bt253.1).bind fun bt257 => (if bt257.2.2.2 = 0 then ((r09_New.f k bt257.1 bt257.2.1 0).bind fun bt263 => ((r09_Tiles.f k bt263.1 bt263.2.1 bt263.2.2.1).bind fun t270 => (r14_Load.l0 k bt253.1 bt257.2.2.1 t270 (([] : List Int)) 0 0 0 0 bt263.1 bt263.2.1 bt263.2.2.1))) else (some (0, 0, ([] : List Int), ([] : List Int), false)))) else (some (0, 0, ([] : List Int), ([] : List Int), false)))) = some (r1, r2, r3, r4, r5) := h
 clear h
 replace H := Option.bind_eq_some_iff.mp H
 obtain ⟨⟨t253, t256⟩, A20, H⟩ := H
 replace H : (if t256 = 0 then ((r13_Get.f k t253).bind fun bt257 => (if bt257.2.2.2 = 0 then ((r09_New.f k bt257.1 bt257.2.1 0).bind fun bt263 => ((r09_Tiles.f k bt263.1 bt263.2.1 bt263.2.2.1).bind fun t270 => (r14_Load.l0 k t253 bt257.2.2.1 t270 (([] : List Int)) 0 0 0 0 bt263.1 bt263.2.1 bt263.2.2.1))) else (some (0, 0, ([] : List Int), ([] : List Int), false)))) else (some (0, 0, ([] : List Int), ([] : List Int), false))) = some (r1, r2, r3, r4, r5) := H
 have A2 := Ad.mk A20
 clear A20
 by_cases c3 : t256 = 0
 ·rw [if_pos c3] at H
  have c3b0 : (t256 == 0) = true := beq_iff_eq.mpr c3
  have c3b1 : (t256 != 0) = false := bne_eq_false_iff_eq.mpr c3
  clear c3
  replace H := Option.bind_eq_some_iff.mp H
  obtain ⟨⟨t257, t258, t259, t260⟩, A40, H⟩ := H
  replace H : (if t260 = 0 then ((r09_New.f k t257 t258 0).bind fun bt263 => ((r09_Tiles.f k bt263.1 bt263.2.1 bt263.2.2.1).bind fun t270 => (r14_Load.l0 k t253 t259 t270 (([] : List Int)) 0 0 0 0 bt263.1 bt263.2.1 bt263.2.2.1))) else (some (0, 0, ([] : List Int), ([] : List Int), false))) = some (r1, r2, r3, r4, r5) := H
  have A4 := Ad.mk A40
  clear A40
  by_cases c5 : t260 = 0
  ·rw [if_pos c5] at H
   have c5b0 : (t260 == 0) = true := beq_iff_eq.mpr c5
   have c5b1 : (t260 != 0) = false := bne_eq_false_iff_eq.mpr c5
   clear c5
   replace H := Option.bind_eq_some_iff.mp H
   obtain ⟨⟨t263, t264, t265, t268⟩, A60, H⟩ := H
   replace H : ((r09_Tiles.f k t263 t264 t265).bind fun t270 => (r14_Load.l0 k t253 t259 t270 (([] : List Int)) 0 0 0 0 t263 t264 t265)) = some (r1, r2, r3, r4, r5) := H
   have A6 := Ad.mk A60
   clear A60
   replace H := Option.bind_eq_some_iff.mp H
   obtain ⟨t270, A70, H⟩ := H
   replace H : (r14_Load.l0 k t253 t259 t270 (([] : List Int)) 0 0 0 0 t263 t264 t265) = some (r1, r2, r3, r4, r5) := H
   have A7 := Ad.mk A70
   clear A70
   obtain ⟨y273, hy273⟩ : ∃ y_ : List Int, y_ = (([] : List Int)) := ⟨_, rfl⟩
   replace H : (r14_Load.l0 k t253 t259 t270 y273 0 0 0 0 t263 t264 t265) = some (r1, r2, r3, r4, r5) := by first | (rw [hy273]; with_reducible exact H) | (have H2_ := (Option.bind_some _ _).symm.trans H; rw [hy273]; with_reducible exact H2_) | (have H2_ := (Option.bind_some _ _).symm.trans H; with_reducible exact H2_) | with_reducible exact H | (rw [hy273]; exact H) | exact H
   have Ny273 := Ad.mk hy273
   clear hy273
   have H' := Ad.mk H
   clear H
   go_enter Tryz.func14, Tryz.ntmps14
   go_wp2_with (first | ((with_reducible refine gate_dst (N := 2) rfl ?_); refine box_event ?hg (N := 2) ?hd (cs := #[.int .i64 0, .int .i64 0, .slice none 0 0]) (t := 53) ?hr ?_; (case hd => rfl); (case hg => rfl); (case hr => first | (go_simp; done) | (go_simp; rfl)); intro gb251 hg w8 hbox hb; have n0_ := HO0; have n1_ := Ad.mk (Kept.below (S := (fun k_ => P0_ k_)) (by repeat (first | (with_reducible first | exact HK.out | apply Kept.alloc | apply Kept.drewN | apply Kept.drew) | exact HK.out)) hb); have n2_ := Ad.mk (below_step (by repeat (first | (with_reducible first | exact HB.out | apply bwA | apply bwN | apply bw1) | exact HB.out)) hb); have n3_ := Ad.mk (hbox); have n4_ := Ad.mk ((by rw [hg]; exact (by first | exact HK.out.1 | exact (show Kept w _ (fun k_ => P0_ k_) from by repeat (first | (with_reducible first | exact HK.out | apply Kept.alloc | apply Kept.drewN | apply Kept.drew) | exact HK.out)).1) : w.heap.size ≤ gb251)); have n5_ := Ad.mk ((by rw [hg]; exact (below_size (by repeat (first | (with_reducible first | exact HB.out | apply bwA | apply bwN | apply bw1) | exact HB.out))) : w0.heap.size ≤ gb251)); clear HO0; clear HK; clear HB; have HO0 := n0_; have HK := n1_; have HB := n2_; have BK251 := n3_; have GW251 := n4_; have GE251 := n5_; clear n0_ n1_ n2_ n3_ n4_ n5_; clear hb hbox hg) | ((with_reducible refine gate_dst (N := 5) rfl ?_); refine box_event ?hg (N := 5) ?hd (cs := #[.int .i64 0, .int .i64 0, .slice none 0 0]) (t := 53) ?hr ?_; (case hd => rfl); (case hg => rfl); (case hr => first | (go_simp; done) | (go_simp; rfl)); intro gb252 hg w9 hbox hb; have n0_ := HO0; have n1_ := Ad.mk (blk_below (g := gb251) (o := .cells #[.int .i64 0, .int .i64 0, .slice none 0 0] 53 (0, 0)) (by (with_reducible repeat (first | refine bkN ?_ _ | refine bkD ?_ | refine bkA ?_ _)); exact BK251.out) hb); have n2_ := Ad.mk (Kept.below (S := (fun k_ => P0_ k_)) (by repeat (first | (with_reducible first | exact HK.out | apply Kept.alloc | apply Kept.drewN | apply Kept.drew | refine Kept.setCell ?_ (.inr GW251.out) _) | exact HK.out)) hb); have n3_ := Ad.mk (below_step (by repeat (first | (with_reducible first | exact HB.out | apply bwA | apply bwN | apply bw1 | refine bwS ?_ GE251.out) | exact HB.out)) hb); have n4_ := Ad.mk (hbox); have n5_ := Ad.mk ((by rw [hg]; exact (by first | exact HK.out.1 | exact (show Kept w _ (fun k_ => P0_ k_) from by repeat (first | (with_reducible first | exact HK.out | apply Kept.alloc | apply Kept.drewN | apply Kept.drew | refine Kept.setCell ?_ (.inr GW251.out) _) | exact HK.out)).1) : w.heap.size ≤ gb252)); have n6_ := Ad.mk ((by rw [hg]; exact (below_size (by repeat (first | (with_reducible first | exact HB.out | apply bwA | apply bwN | apply bw1 | refine bwS ?_ GE251.out) | exact HB.out))) : w0.heap.size ≤ gb252)); have n7_ := Ad.mk ((by rw [hg]; exact Nat.ne_of_lt (blk_lt (g := gb251) (o := .cells #[.int .i64 0, .int .i64 0, .slice none 0 0] 53 (0, 0)) (by (with_reducible repeat (first | refine bkN ?_ _ | refine bkD ?_ | refine bkA ?_ _)); exact BK251.out)) : gb251 ≠ gb252)); have n8_ := Ad.mk ((by rw [hg]; exact Nat.ne_of_gt (blk_lt (g := gb251) (o := .cells #[.int .i64 0, .int .i64 0, .slice none 0 0] 53 (0, 0)) (by (with_reducible repeat (first | refine bkN ?_ _ | refine bkD ?_ | refine bkA ?_ _)); exact BK251.out)) : gb252 ≠ gb251)); clear HO0; clear BK251; clear HK; clear HB; have HO0 := n0_; have BK251 := n1_; have HK := n2_; have HB := n3_; have BK252 := n4_; have GW252 := n5_; have GE252 := n6_; have NB251_252 := n7_; have NB252_251 := n8_; clear n0_ n1_ n2_ n3_ n4_ n5_ n6_ n7_ n8_; clear hb hbox hg; have hnb10 := NB252_251.out; have hnc10 := NB251_252.out; have hcz11_0 : w9.cell? ⟨gb252, 0, none⟩ = some (.int .i64 0) := (bkC BK252.out 0).trans rfl; have hcz11_1 : w9.cell? ⟨gb252, 1, none⟩ = some (.int .i64 0) := (bkC BK252.out 1).trans rfl; have hcz11_2 : w9.cell? ⟨gb252, 2, none⟩ = some (.slice none 0 0) := (bkC BK252.out 2).trans rfl; have hfz11_0 := bkF BK252.out 0; have hfz11_1 := bkF BK252.out 1; have hfz11_2 := bkF BK252.out 2) | ((with_reducible refine gate_store (t := 53) (p := 5) rfl ?_); refine store_event (t := 53) (p := 5) (v := ?vo_w12) (w1 := (((w9.setCell ⟨gb252, 0, none⟩ (.int .i64 0)).setCell ⟨gb252, 1, none⟩ (.int .i64 0)).setCell ⟨gb252, 2, none⟩ (.slice none 0 0))) ?hg ?ho ?hn ?hr ?_; (case ho => rfl); (case hg => rfl); (case hn => rfl); (case hr => first | (go_simp; done) | (go_simp; rfl)); intro w12 hw; have n0_ := HO0; have n1_ : Ad (w12.heap[gb251]? = some (.cells #[.int .i64 0, .int .i64 0, .slice none 0 0] 53 (0, 0))) := ⟨(by rw [hw]; exact (by (with_reducible repeat (first | refine bkN ?_ _ | refine bkD ?_ | refine bkA ?_ _)); refine blk_far ?_ NB251_252.out _; (with_reducible repeat (first | refine bkN ?_ _ | refine bkD ?_ | refine bkA ?_ _)); refine blk_far ?_ NB251_252.out _; (with_reducible repeat (first | refine bkN ?_ _ | refine bkD ?_ | refine bkA ?_ _)); refine blk_far ?_ NB251_252.out _; (with_reducible repeat (first | refine bkN ?_ _ | refine bkD ?_ | refine bkA ?_ _)); exact BK251.out))⟩; have n2_ : Ad (w12.heap[gb252]? = some (.cells #[.int .i64 0, .int .i64 0, .slice none 0 0] 53 (0, 0))) := ⟨(by rw [hw]; exact (by (with_reducible repeat (first | refine bkN ?_ _ | refine bkD ?_ | refine bkA ?_ _)); refine blk_put (cs := #[.int .i64 0, .int .i64 0, .slice none 0 0]) ?_ 2 _ rfl; (with_reducible repeat (first | refine bkN ?_ _ | refine bkD ?_ | refine bkA ?_ _)); refine blk_put (cs := #[.int .i64 0, .int .i64 0, .slice none 0 0]) ?_ 1 _ rfl; (with_reducible repeat (first | refine bkN ?_ _ | refine bkD ?_ | refine bkA ?_ _)); refine blk_put (cs := #[.int .i64 0, .int .i64 0, .slice none 0 0]) ?_ 0 _ rfl; (with_reducible repeat (first | refine bkN ?_ _ | refine bkD ?_ | refine bkA ?_ _)); exact BK252.out))⟩; have n3_ : Ad (Kept w w12 (fun k_ => P0_ k_)) := ⟨(by rw [hw]; exact (by repeat (first | (with_reducible first | exact HK.out | apply Kept.alloc | apply Kept.drewN | apply Kept.drew | refine Kept.setCell ?_ (.inr GW251.out) _ | refine Kept.setCell ?_ (.inr GW252.out) _) | exact HK.out)))⟩; have n4_ : Ad (Below w0.heap.size w0 w12) := ⟨(by rw [hw]; exact (by repeat (first | (with_reducible first | exact HB.out | apply bwA | apply bwN | apply bw1 | refine bwS ?_ GE251.out | refine bwS ?_ GE252.out) | exact HB.out)))⟩; clear hw; clear HO0; clear BK251; clear BK252; clear HK; clear HB; have HO0 := n0_; have BK251 := n1_; have BK252 := n2_; have HK := n3_; have HB := n4_; clear n0_ n1_ n2_ n3_ n4_) | ((with_reducible refine gate_callee (f := 27) rfl ?_); refine goesL_ (some 26) rfl rfl Tryz.func27 (by kernel_rfl) rfl #[.slice A0 l0.length c0] rfl (by (try simp only [List.map_toArray, List.map_cons, List.map_nil]); first | done | rfl | (simp only [List.length_drop, List.length_take]; rfl)) ?_; (with_reducible refine (open_calls k _ _ l0 t253 t256 _ ?side1 ?side2 A2.out).mono ?_); (case side1 => exact Kd.C_below HO0.out.1 (by repeat (first | (with_reducible first | exact HB.out | apply bwA | apply bwN | apply bw1 | refine bwS ?_ GE251.out | refine bwS ?_ GE252.out) | exact HB.out))); (case side2 => exact HO0.out.2); rintro e w14 ⟨Ao15, co15, rfl, hle15, hC15, hb⟩; refine ⟨_, rfl, ?_⟩; have n0_ := Ad.mk (blk_below (g := gb251) (o := .cells #[.int .i64 0, .int .i64 0, .slice none 0 0] 53 (0, 0)) (by (with_reducible repeat (first | refine bkN ?_ _ | refine bkD ?_ | refine bkA ?_ _)); exact BK251.out) hb); have n1_ := Ad.mk (blk_below (g := gb252) (o := .cells #[.int .i64 0, .int .i64 0, .slice none 0 0] 53 (0, 0)) (by (with_reducible repeat (first | refine bkN ?_ _ | refine bkD ?_ | refine bkA ?_ _)); exact BK252.out) hb); have n2_ := Ad.mk (And.intro (hC15 w0 HO0.out.1) hle15); have n3_ := Ad.mk (Kept.below (S := (fun k_ => P0_ k_)) (by repeat (first | (with_reducible first | exact HK.out | apply Kept.alloc | apply Kept.drewN | apply Kept.drew | refine Kept.setCell ?_ (.inr GW251.out) _ | refine Kept.setCell ?_ (.inr GW252.out) _) | exact HK.out)) hb); have n4_ := Ad.mk (below_step (by repeat (first | (with_reducible first | exact HB.out | apply bwA | apply bwN | apply bw1 | refine bwS ?_ GE251.out | refine bwS ?_ GE252.out) | exact HB.out)) hb); clear BK251; clear BK252; clear HK; clear HB; clear HO0; have BK251 := n0_; have BK252 := n1_; have HO255 := n2_; have HK := n3_; have HB := n4_; clear n0_ n1_ n2_ n3_ n4_; (try clear hb); clear hC15 hle15) | ((with_reducible refine gate_callee (f := 28) rfl ?_); refine goesL_ (some 34) rfl rfl Tryz.func28 (by kernel_rfl) rfl #[.slice Ao15 t253.length co15] rfl (by (try simp only [List.map_toArray, List.map_cons, List.map_nil]); first | done | rfl | (simp only [List.length_drop, List.length_take]; rfl)) ?_; (with_reducible refine (r13_Get.calls k _ _ t253 t257 t258 t259 t260 _ ?side1 ?side2 A4.out).mono ?_); (case side1 => repeat (first | exact Kd.C_below HO255.out.1 (by repeat (first | (with_reducible first | exact HB.out | apply bwA | apply bwN | apply bw1 | refine bwS ?_ GE251.out | refine bwS ?_ GE252.out) | exact HB.out)) | (with_reducible refine Kd.C_alloc ?_ _) | (with_reducible refine Kd.C_drewN ?_ _) | (with_reducible refine Kd.C_drew ?_))); (case side2 => exact HO255.out.2); rintro e w16 ⟨v261, rfl, ho0, hb⟩; refine ⟨_, rfl, ?_⟩; have n0_ := HO255; have n1_ := Ad.mk (Kd.R_lower (Kd.R_newM (M := fun k_ => (P0_ k_ ∨ w.heap.size ≤ k_)) ho0 (by first | exact HK.out.1 | exact (show Kept w _ (fun k_ => P0_ k_) from by repeat (first | (with_reducible first | exact HK.out | apply Kept.alloc | apply Kept.drewN | apply Kept.drew | refine Kept.setCell ?_ (.inr GW251.out) _ | refine Kept.setCell ?_ (.inr GW252.out) _) | exact HK.out)).1) (fun k_ h_ => .inr h_)) (below_size (by repeat (first | (with_reducible first | exact HB.out | apply bwA | apply bwN | apply bw1 | refine bwS ?_ GE251.out | refine bwS ?_ GE252.out) | exact HB.out)))); have n2_ := Ad.mk (blk_below (g := gb251) (o := .cells #[.int .i64 0, .int .i64 0, .slice none 0 0] 53 (0, 0)) (by (with_reducible repeat (first | refine bkN ?_ _ | refine bkD ?_ | refine bkA ?_ _)); exact BK251.out) hb); have n3_ := Ad.mk (blk_below (g := gb252) (o := .cells #[.int .i64 0, .int .i64 0, .slice none 0 0] 53 (0, 0)) (by (with_reducible repeat (first | refine bkN ?_ _ | refine bkD ?_ | refine bkA ?_ _)); exact BK252.out) hb); have n4_ := Ad.mk (Kept.below (S := (fun k_ => P0_ k_)) (by repeat (first | (with_reducible first | exact HK.out | apply Kept.alloc | apply Kept.drewN | apply Kept.drew | refine Kept.setCell ?_ (.inr GW251.out) _ | refine Kept.setCell ?_ (.inr GW252.out) _) | exact HK.out)) hb); have n5_ := Ad.mk (below_step (by repeat (first | (with_reducible first | exact HB.out | apply bwA | apply bwN | apply bw1 | refine bwS ?_ GE251.out | refine bwS ?_ GE252.out) | exact HB.out)) hb); clear HO255; clear BK251; clear BK252; clear HK; clear HB; have HO255 := n0_; have HO262 := n1_; have BK251 := n2_; have BK252 := n3_; have HK := n4_; have HB := n5_; clear n0_ n1_ n2_ n3_ n4_ n5_; (try clear hb); (try clear hb2); (try clear hk); (try clear hi); (try clear ho0)) | ((with_reducible refine gate_callee (f := 29) rfl ?_); refine goesL_ (some 45) rfl rfl Tryz.func29 (by kernel_rfl) rfl #[.int .i64 t257, .int .i64 t258, .int .i64 0] rfl (by (try simp only [List.map_toArray, List.map_cons, List.map_nil]); first | done | rfl | (simp only [List.length_drop, List.length_take]; rfl)) ?_; (with_reducible refine (r09_New.calls k t257 t258 0 t263 t264 t265 t268 _ A6.out).mono ?_); rintro e w17 ⟨v266, rfl, ho0, hb⟩; refine ⟨_, rfl, ?_⟩; have n0_ := HO255; have n1_ := Ad.mk (Kd.R_below (by (with_reducible repeat (first | apply Kd.R_alloc | apply Kd.R_drewN | apply Kd.R_drew)); exact HO262.out) hb); have n2_ := Ad.mk (Kd.R_lower (Kd.R_newM (M := fun k_ => (P0_ k_ ∨ w.heap.size ≤ k_)) ho0 (by first | exact HK.out.1 | exact (show Kept w _ (fun k_ => P0_ k_) from by repeat (first | (with_reducible first | exact HK.out | apply Kept.alloc | apply Kept.drewN | apply Kept.drew | refine Kept.setCell ?_ (.inr GW251.out) _ | refine Kept.setCell ?_ (.inr GW252.out) _) | exact HK.out)).1) (fun k_ h_ => .inr h_)) (below_size (by repeat (first | (with_reducible first | exact HB.out | apply bwA | apply bwN | apply bw1 | refine bwS ?_ GE251.out | refine bwS ?_ GE252.out) | exact HB.out)))); have n3_ := Ad.mk (blk_below (g := gb251) (o := .cells #[.int .i64 0, .int .i64 0, .slice none 0 0] 53 (0, 0)) (by (with_reducible repeat (first | refine bkN ?_ _ | refine bkD ?_ | refine bkA ?_ _)); exact BK251.out) hb); have n4_ := Ad.mk (blk_below (g := gb252) (o := .cells #[.int .i64 0, .int .i64 0, .slice none 0 0] 53 (0, 0)) (by (with_reducible repeat (first | refine bkN ?_ _ | refine bkD ?_ | refine bkA ?_ _)); exact BK252.out) hb); have n5_ := Ad.mk (Kept.below (S := (fun k_ => P0_ k_)) (by repeat (first | (with_reducible first | exact HK.out | apply Kept.alloc | apply Kept.drewN | apply Kept.drew | refine Kept.setCell ?_ (.inr GW251.out) _ | refine Kept.setCell ?_ (.inr GW252.out) _) | exact HK.out)) hb); have n6_ := Ad.mk (below_step (by repeat (first | (with_reducible first | exact HB.out | apply bwA | apply bwN | apply bw1 | refine bwS ?_ GE251.out | refine bwS ?_ GE252.out) | exact HB.out)) hb); clear HO255; clear HO262; clear BK251; clear BK252; clear HK; clear HB; have HO255 := n0_; have HO262 := n1_; have HO267 := n2_; have BK251 := n3_; have BK252 := n4_; have HK := n5_; have HB := n6_; clear n0_ n1_ n2_ n3_ n4_ n5_ n6_; (try clear hb); (try clear hb2); (try clear hk); (try clear hi); (try clear ho0)) | ((with_reducible refine gate_dst (N := 12) rfl ?_); refine box_event ?hg (N := 12) ?hd (cs := #[.int .i64 0, .int .i64 0, .slice none 0 0]) (t := 53) ?hr ?_; (case hd => rfl); (case hg => rfl); (case hr => first | (go_simp; done) | (go_simp; rfl)); intro gb269 hg w18 hbox hb; have n0_ := HO255; have n1_ := Ad.mk (Kd.R_below (by (with_reducible repeat (first | apply Kd.R_alloc | apply Kd.R_drewN | apply Kd.R_drew)); exact HO262.out) hb); have n2_ := Ad.mk (Kd.R_below (by (with_reducible repeat (first | apply Kd.R_alloc | apply Kd.R_drewN | apply Kd.R_drew)); exact HO267.out) hb); have n3_ := Ad.mk (blk_below (g := gb251) (o := .cells #[.int .i64 0, .int .i64 0, .slice none 0 0] 53 (0, 0)) (by (with_reducible repeat (first | refine bkN ?_ _ | refine bkD ?_ | refine bkA ?_ _)); exact BK251.out) hb); have n4_ := Ad.mk (blk_below (g := gb252) (o := .cells #[.int .i64 0, .int .i64 0, .slice none 0 0] 53 (0, 0)) (by (with_reducible repeat (first | refine bkN ?_ _ | refine bkD ?_ | refine bkA ?_ _)); exact BK252.out) hb); have n5_ := Ad.mk (Kept.below (S := (fun k_ => P0_ k_)) (by repeat (first | (with_reducible first | exact HK.out | apply Kept.alloc | apply Kept.drewN | apply Kept.drew | refine Kept.setCell ?_ (.inr GW251.out) _ | refine Kept.setCell ?_ (.inr GW252.out) _) | exact HK.out)) hb); have n6_ := Ad.mk (below_step (by repeat (first | (with_reducible first | exact HB.out | apply bwA | apply bwN | apply bw1 | refine bwS ?_ GE251.out | refine bwS ?_ GE252.out) | exact HB.out)) hb); have n7_ := Ad.mk (hbox); have n8_ := Ad.mk ((by rw [hg]; exact (by first | exact HK.out.1 | exact (show Kept w _ (fun k_ => P0_ k_) from by repeat (first | (with_reducible first | exact HK.out | apply Kept.alloc | apply Kept.drewN | apply Kept.drew | refine Kept.setCell ?_ (.inr GW251.out) _ | refine Kept.setCell ?_ (.inr GW252.out) _) | exact HK.out)).1) : w.heap.size ≤ gb269)); have n9_ := Ad.mk ((by rw [hg]; exact (below_size (by repeat (first | (with_reducible first | exact HB.out | apply bwA | apply bwN | apply bw1 | refine bwS ?_ GE251.out | refine bwS ?_ GE252.out) | exact HB.out))) : w0.heap.size ≤ gb269)); have n10_ := Ad.mk ((by rw [hg]; exact Nat.ne_of_lt (blk_lt (g := gb251) (o := .cells #[.int .i64 0, .int .i64 0, .slice none 0 0] 53 (0, 0)) (by (with_reducible repeat (first | refine bkN ?_ _ | refine bkD ?_ | refine bkA ?_ _)); exact BK251.out)) : gb251 ≠ gb269)); have n11_ := Ad.mk ((by rw [hg]; exact Nat.ne_of_gt (blk_lt (g := gb251) (o := .cells #[.int .i64 0, .int .i64 0, .slice none 0 0] 53 (0, 0)) (by (with_reducible repeat (first | refine bkN ?_ _ | refine bkD ?_ | refine bkA ?_ _)); exact BK251.out)) : gb269 ≠ gb251)); have n12_ := Ad.mk ((by rw [hg]; exact Nat.ne_of_lt (blk_lt (g := gb252) (o := .cells #[.int .i64 0, .int .i64 0, .slice none 0 0] 53 (0, 0)) (by (with_reducible repeat (first | refine bkN ?_ _ | refine bkD ?_ | refine bkA ?_ _)); exact BK252.out)) : gb252 ≠ gb269)); have n13_ := Ad.mk ((by rw [hg]; exact Nat.ne_of_gt (blk_lt (g := gb252) (o := .cells #[.int .i64 0, .int .i64 0, .slice none 0 0] 53 (0, 0)) (by (with_reducible repeat (first | refine bkN ?_ _ | refine bkD ?_ | refine bkA ?_ _)); exact BK252.out)) : gb269 ≠ gb252)); clear HO255; clear HO262; clear HO267; clear BK251; clear BK252; clear HK; clear HB; have HO255 := n0_; have HO262 := n1_; have HO267 := n2_; have BK251 := n3_; have BK252 := n4_; have HK := n5_; have HB := n6_; have BK269 := n7_; have GW269 := n8_; have GE269 := n9_; have NB251_269 := n10_; have NB269_251 := n11_; have NB252_269 := n12_; have NB269_252 := n13_; clear n0_ n1_ n2_ n3_ n4_ n5_ n6_ n7_ n8_ n9_ n10_ n11_ n12_ n13_; clear hb hbox hg; have hnb19 := NB269_251.out; have hnc19 := NB251_269.out; have hnb20 := NB269_252.out; have hnc20 := NB252_269.out; have hcz21_0 : w18.cell? ⟨gb269, 0, none⟩ = some (.int .i64 0) := (bkC BK269.out 0).trans rfl; have hcz21_1 : w18.cell? ⟨gb269, 1, none⟩ = some (.int .i64 0) := (bkC BK269.out 1).trans rfl; have hcz21_2 : w18.cell? ⟨gb269, 2, none⟩ = some (.slice none 0 0) := (bkC BK269.out 2).trans rfl; have hfz21_0 := bkF BK269.out 0; have hfz21_1 := bkF BK269.out 1; have hfz21_2 := bkF BK269.out 2; obtain ⟨Ao22, co22, eo22⟩ := Kd.R_slice HO267.out; subst eo22) | ((with_reducible refine gate_callee (f := 30) rfl ?_); refine goesL_ (some 49) rfl rfl Tryz.func30 (by kernel_rfl) rfl #[.agg #[.int .i64 t263, .int .i64 t264, .slice Ao22 t265.length co22]] rfl (by (try simp only [List.map_toArray, List.map_cons, List.map_nil]); first | done | rfl | (simp only [List.length_drop, List.length_take]; rfl)) ?_; (with_reducible refine (r09_Tiles.calls k t263 t264 _ _ t265 t270 _ ?side1 ?side2 A7.out).mono ?_); (case side1 => refine (Kd.R_reads' (e := 2) (base := w0.heap.size) (ok := fun k_ => ((P0_ k_ ∨ w.heap.size ≤ k_) ∧ True)) (n := t265.length) (c := co22) ?_).2.2; exact (by (with_reducible repeat (first | apply Kd.R_alloc | apply Kd.R_drewN | apply Kd.R_drew)); exact (Kd.R_mono (Kd.R_far (p := ⟨gb269, 2, none⟩) (Kd.R_far (p := ⟨gb269, 1, none⟩) (Kd.R_far (p := ⟨gb269, 0, none⟩) (Kd.R_types HO267.out BK269.out (by decide)) (fun _ hk => hk.2) (.int .i64 t263)) (fun _ hk => hk.2) (.int .i64 t264)) (fun _ hk => hk.2) (.slice Ao22 t265.length co22)) (fun _ h_ => h_.1)))); (case side2 => exact (Kd.R_reads' HO267.out).2.1); rintro e w23 ⟨v271, rfl, ho0, hb⟩; refine ⟨_, rfl, ?_⟩; have n0_ := HO255; have n1_ := Ad.mk (Kd.R_below (by (with_reducible repeat (first | apply Kd.R_alloc | apply Kd.R_drewN | apply Kd.R_drew)); exact (Kd.R_mono (Kd.R_far (p := ⟨gb269, 2, none⟩) (Kd.R_far (p := ⟨gb269, 1, none⟩) (Kd.R_far (p := ⟨gb269, 0, none⟩) (Kd.R_types HO262.out BK269.out (by decide)) (fun _ hk => hk.2) (.int .i64 t263)) (fun _ hk => hk.2) (.int .i64 t264)) (fun _ hk => hk.2) (.slice Ao22 t265.length co22)) (fun _ h_ => h_.1))) hb); have n2_ := Ad.mk (Kd.R_below (by (with_reducible repeat (first | apply Kd.R_alloc | apply Kd.R_drewN | apply Kd.R_drew)); exact (Kd.R_mono (Kd.R_far (p := ⟨gb269, 2, none⟩) (Kd.R_far (p := ⟨gb269, 1, none⟩) (Kd.R_far (p := ⟨gb269, 0, none⟩) (Kd.R_types HO267.out BK269.out (by decide)) (fun _ hk => hk.2) (.int .i64 t263)) (fun _ hk => hk.2) (.int .i64 t264)) (fun _ hk => hk.2) (.slice Ao22 t265.length co22)) (fun _ h_ => h_.1))) hb); have n3_ := Ad.mk (Kd.R_lower (Kd.R_newM (M := fun k_ => (P0_ k_ ∨ w.heap.size ≤ k_)) ho0 (show Kept w _ (fun k_ => P0_ k_) from by repeat (first | (with_reducible first | exact HK.out | apply Kept.alloc | apply Kept.drewN | apply Kept.drew | refine Kept.setCell ?_ (.inr GW251.out) _ | refine Kept.setCell ?_ (.inr GW252.out) _ | refine Kept.setCell ?_ (.inr GW269.out) _) | exact HK.out)).1 (fun k_ h_ => .inr h_)) (below_size (by repeat (first | (with_reducible first | exact HB.out | apply bwA | apply bwN | apply bw1 | refine bwS ?_ GE251.out | refine bwS ?_ GE252.out | refine bwS ?_ GE269.out) | exact HB.out)))); have n4_ := Ad.mk (blk_below (g := gb251) (o := .cells #[.int .i64 0, .int .i64 0, .slice none 0 0] 53 (0, 0)) (by (with_reducible repeat (first | refine bkN ?_ _ | refine bkD ?_ | refine bkA ?_ _)); refine blk_far ?_ NB251_269.out _; (with_reducible repeat (first | refine bkN ?_ _ | refine bkD ?_ | refine bkA ?_ _)); refine blk_far ?_ NB251_269.out _; (with_reducible repeat (first | refine bkN ?_ _ | refine bkD ?_ | refine bkA ?_ _)); refine blk_far ?_ NB251_269.out _; (with_reducible repeat (first | refine bkN ?_ _ | refine bkD ?_ | refine bkA ?_ _)); exact BK251.out) hb); have n5_ := Ad.mk (blk_below (g := gb252) (o := .cells #[.int .i64 0, .int .i64 0, .slice none 0 0] 53 (0, 0)) (by (with_reducible repeat (first | refine bkN ?_ _ | refine bkD ?_ | refine bkA ?_ _)); refine blk_far ?_ NB252_269.out _; (with_reducible repeat (first | refine bkN ?_ _ | refine bkD ?_ | refine bkA ?_ _)); refine blk_far ?_ NB252_269.out _; (with_reducible repeat (first | refine bkN ?_ _ | refine bkD ?_ | refine bkA ?_ _)); refine blk_far ?_ NB252_269.out _; (with_reducible repeat (first | refine bkN ?_ _ | refine bkD ?_ | refine bkA ?_ _)); exact BK252.out) hb); have n6_ := Ad.mk (blk_below (g := gb269) (o := .cells #[.int .i64 t263, .int .i64 t264, .slice Ao22 t265.length co22] 53 (0, 0)) (by (with_reducible repeat (first | refine bkN ?_ _ | refine bkD ?_ | refine bkA ?_ _)); refine blk_put (cs := #[.int .i64 t263, .int .i64 t264, .slice none 0 0]) ?_ 2 _ rfl; (with_reducible repeat (first | refine bkN ?_ _ | refine bkD ?_ | refine bkA ?_ _)); refine blk_put (cs := #[.int .i64 t263, .int .i64 0, .slice none 0 0]) ?_ 1 _ rfl; (with_reducible repeat (first | refine bkN ?_ _ | refine bkD ?_ | refine bkA ?_ _)); refine blk_put (cs := #[.int .i64 0, .int .i64 0, .slice none 0 0]) ?_ 0 _ rfl; (with_reducible repeat (first | refine bkN ?_ _ | refine bkD ?_ | refine bkA ?_ _)); exact BK269.out) hb); have n7_ := Ad.mk (Kept.below (S := (fun k_ => P0_ k_)) (by repeat (first | (with_reducible first | exact HK.out | apply Kept.alloc | apply Kept.drewN | apply Kept.drew | refine Kept.setCell ?_ (.inr GW251.out) _ | refine Kept.setCell ?_ (.inr GW252.out) _ | refine Kept.setCell ?_ (.inr GW269.out) _) | exact HK.out)) hb); have n8_ := Ad.mk (below_step (by repeat (first | (with_reducible first | exact HB.out | apply bwA | apply bwN | apply bw1 | refine bwS ?_ GE251.out | refine bwS ?_ GE252.out | refine bwS ?_ GE269.out) | exact HB.out)) hb); clear HO255; clear HO262; clear HO267; clear BK251; clear BK252; clear BK269; clear HK; clear HB; have HO255 := n0_; have HO262 := n1_; have HO267 := n2_; have HO272 := n3_; have BK251 := n4_; have BK252 := n5_; have BK269 := n6_; have HK := n7_; have HB := n8_; clear n0_ n1_ n2_ n3_ n4_ n5_ n6_ n7_ n8_; (try clear hb); (try clear hb2); (try clear hk); (try clear hi); (try clear ho0)) | ((with_reducible refine gate_dst (N := 50) rfl ?_); refine Kd.R_lit (Kd.int .i64) _ 3 ?hg (N := 50) ?hd (xs := ([] : List Int)) (inner := []) (ok := fun _ => True) (okp := fun _ => True) ?hr ?hp (fun _ hk => hk) trivial (Below.refl _ _) (Nat.le_refl _) (by simp) ?_; (case hd => rfl); (case hg => rfl); (case hr => first | (go_simp; done) | (go_simp; rfl)); (case hp => exact (Reps.none _ _)); intro v274 w24 ho25 hb hg_ hnew_; clear hg_ hnew_; (first | rw [← Ny273.out] at ho25 | (simp only [Int.reduceToNat] at ho25; rw [← Ny273.out] at ho25)); have n0_ := HO255; have n1_ := Ad.mk (Kd.R_below (by (with_reducible repeat (first | apply Kd.R_alloc | apply Kd.R_drewN | apply Kd.R_drew)); exact HO262.out) hb); have n2_ := Ad.mk (Kd.R_below (by (with_reducible repeat (first | apply Kd.R_alloc | apply Kd.R_drewN | apply Kd.R_drew)); exact HO267.out) hb); have n3_ := Ad.mk (Kd.R_below (by (with_reducible repeat (first | apply Kd.R_alloc | apply Kd.R_drewN | apply Kd.R_drew)); exact HO272.out) hb); have n4_ := Ad.mk (Kd.R_lower (Kd.R_newM (M := fun k_ => (P0_ k_ ∨ w.heap.size ≤ k_)) ho25 (by first | exact HK.out.1 | exact (show Kept w _ (fun k_ => P0_ k_) from by repeat (first | (with_reducible first | exact HK.out | apply Kept.alloc | apply Kept.drewN | apply Kept.drew | refine Kept.setCell ?_ (.inr GW251.out) _ | refine Kept.setCell ?_ (.inr GW252.out) _ | refine Kept.setCell ?_ (.inr GW269.out) _) | exact HK.out)).1) (fun k_ h_ => .inr h_)) (below_size (by repeat (first | (with_reducible first | exact HB.out | apply bwA | apply bwN | apply bw1 | refine bwS ?_ GE251.out | refine bwS ?_ GE252.out | refine bwS ?_ GE269.out) | exact HB.out)))); have n5_ := Ad.mk (blk_below (g := gb251) (o := .cells #[.int .i64 0, .int .i64 0, .slice none 0 0] 53 (0, 0)) (by (with_reducible repeat (first | refine bkN ?_ _ | refine bkD ?_ | refine bkA ?_ _)); exact BK251.out) hb); have n6_ := Ad.mk (blk_below (g := gb252) (o := .cells #[.int .i64 0, .int .i64 0, .slice none 0 0] 53 (0, 0)) (by (with_reducible repeat (first | refine bkN ?_ _ | refine bkD ?_ | refine bkA ?_ _)); exact BK252.out) hb); have n7_ := Ad.mk (blk_below (g := gb269) (o := .cells #[.int .i64 t263, .int .i64 t264, .slice Ao22 t265.length co22] 53 (0, 0)) (by (with_reducible repeat (first | refine bkN ?_ _ | refine bkD ?_ | refine bkA ?_ _)); exact BK269.out) hb); have n8_ := Ad.mk (Kept.below (S := (fun k_ => P0_ k_)) (by repeat (first | (with_reducible first | exact HK.out | apply Kept.alloc | apply Kept.drewN | apply Kept.drew | refine Kept.setCell ?_ (.inr GW251.out) _ | refine Kept.setCell ?_ (.inr GW252.out) _ | refine Kept.setCell ?_ (.inr GW269.out) _) | exact HK.out)) hb); have n9_ := Ad.mk (below_step (by repeat (first | (with_reducible first | exact HB.out | apply bwA | apply bwN | apply bw1 | refine bwS ?_ GE251.out | refine bwS ?_ GE252.out | refine bwS ?_ GE269.out) | exact HB.out)) hb); clear HO255; clear HO262; clear HO267; clear HO272; clear BK251; clear BK252; clear BK269; clear HK; clear HB; have HO255 := n0_; have HO262 := n1_; have HO267 := n2_; have HO272 := n3_; have HO275 := n4_; have BK251 := n5_; have BK252 := n6_; have BK269 := n7_; have HK := n8_; have HB := n9_; clear n0_ n1_ n2_ n3_ n4_ n5_ n6_ n7_ n8_ n9_; clear hb ho25))
   go_loopg [15, 16, 17] k (fun kq v15 v16 v17 w' => ∃ (x15_1 : List Int) (x16_1 : Int) (x17_1 : Int) (x252000_1 : Int) (x252001_1 : Int) (x270000_1 : Int) (x270001_1 : Int) (x270002_1 : List Int) (u270002 : Value), v16 = .int .i64 x16_1 ∧ v17 = .int .i64 x17_1 ∧ Ad (r14_Load.l0 kq t253 t259 t270 x15_1 x16_1 x17_1 0 0 x270000_1 x270001_1 x270002_1 = some (r1, r2, r3, r4, r5)) ∧ Ad (kq ≤ k) ∧ Ad (Kd.C (Kd.int .u8) w0 Ao15 t253.length t253 ∧ t253.length ≤ co15) ∧ Ad (Kd.R k95 95 w' w0.heap.size (fun k_ => (P0_ k_ ∨ w.heap.size ≤ k_)) v261 t259) ∧ Ad (Kd.R k23 23 w' w0.heap.size (fun k_ => (P0_ k_ ∨ w.heap.size ≤ k_)) v271 t270) ∧ Ad (Kd.R (Kd.int .i64) 3 w' w0.heap.size (fun k_ => (P0_ k_ ∨ w.heap.size ≤ k_)) v15 x15_1) ∧ Ad (Kd.R (Kd.int .i64) 2 w' w0.heap.size (fun k_ => (P0_ k_ ∨ w.heap.size ≤ k_)) u270002 x270002_1) ∧ Ad (w'.heap[gb251]? = some (.cells #[.int .i64 x252000_1, .int .i64 x252001_1, (.slice none 0 0)] 53 (0, 0))) ∧ Ad (w'.heap[gb252]? = some (.cells #[.int .i64 0, .int .i64 0, (.slice none 0 0)] 53 (0, 0))) ∧ Ad (w'.heap[gb269]? = some (.cells #[.int .i64 x270000_1, .int .i64 x270001_1, u270002] 53 (0, 0))) ∧ Ad (Kept w w' (fun k_ => P0_ k_)) ∧ Ad (Below w0.heap.size w0 w'))
   case atStart => exact ⟨(y273), (0), (0), (0), (0), (t263), (t264), (t265), (.slice Ao22 t265.length co22), (by first | rfl | (simp; done) | (simp [*]; done)), (by first | rfl | (simp; done) | (simp [*]; done)), H', ⟨Nat.le_refl _⟩, HO255, ⟨by (with_reducible repeat (first | apply Kd.R_alloc | apply Kd.R_drewN | apply Kd.R_drew)); exact Kd.R_mono HO262.out (fun _ hk => hk.1)⟩, ⟨by (with_reducible repeat (first | apply Kd.R_alloc | apply Kd.R_drewN | apply Kd.R_drew)); exact Kd.R_mono HO272.out (fun _ hk => hk.1)⟩, ⟨by (with_reducible repeat (first | apply Kd.R_alloc | apply Kd.R_drewN | apply Kd.R_drew)); exact Kd.R_mono HO275.out (fun _ hk => hk.1)⟩, ⟨by (with_reducible repeat (first | apply Kd.R_alloc | apply Kd.R_drewN | apply Kd.R_drew)); exact Kd.R_mono HO267.out (fun _ hk => hk.1)⟩, ⟨by (with_reducible repeat (first | refine bkN ?_ _ | refine bkD ?_ | refine bkA ?_ _)); exact BK251.out⟩, ⟨by (with_reducible repeat (first | refine bkN ?_ _ | refine bkD ?_ | refine bkA ?_ _)); exact BK252.out⟩, ⟨by (with_reducible repeat (first | refine bkN ?_ _ | refine bkD ?_ | refine bkA ?_ _)); exact BK269.out⟩, ⟨by repeat (first | (with_reducible first | exact HK.out | apply Kept.alloc | apply Kept.drewN | apply Kept.drew | refine Kept.setCell ?_ (.inr GW251.out) _ | refine Kept.setCell ?_ (.inr GW252.out) _ | refine Kept.setCell ?_ (.inr GW269.out) _) | exact HK.out)⟩, ⟨by repeat (first | (with_reducible first | exact HB.out | apply bwA | apply bwN | apply bw1 | refine bwS ?_ GE251.out | refine bwS ?_ GE252.out | refine bwS ?_ GE269.out) | exact HB.out)⟩⟩
   case round =>
    clear H'
    try clear c1
    try clear c2
    try clear p2
    try clear c3
    try clear c3b0
    try clear c3b1
    try clear c5
    try clear c5b0
    try clear c5b1
    try clear c10
    try clear c14
    try clear c19
    try clear c20
    try clear hcz11_0
    try clear hcz11_1
    try clear hcz11_2
    try clear hcz21_0
    try clear hcz21_1
    try clear hcz21_2
    try clear hfz11_0
    try clear hfz11_1
    try clear hfz11_2
    try clear hfz21_0
    try clear hfz21_1
    try clear hfz21_2
    obtain ⟨x15_1, x16_1, x17_1, x252000_1, x252001_1, x270000_1, x270001_1, x270002_1, u270002, rfl, rfl, HA, HK1, HO_6, HO_10, HO_14, HO_15, HO_270002, BK251, BK252, BK269, HK, HB⟩ := hrel
    cases gk with
    | zero => exact absurd HA.out (by simp [r14_Load.l0])
    | succ k1 =>
     have H := HA.out
     clear HA
     simp only [r14_Load.l0] at H
     by_cases c26 : x17_1 < (t270.length : Int)
     ·rw [if_pos c26] at H
      have c26b0 : decide (x17_1 < (t270.length : Int)) = true := decide_eq_true c26
      clear c26
      by_cases c27 : 0 ≤ x17_1
      ·rw [if_pos c27] at H
       have c27b0 : decide (0 ≤ x17_1) = true := decide_eq_true c27
       clear c27
       by_cases c28 : x17_1 < (t259.length : Int)
       ·rw [if_pos c28] at H
        have c28b0 : decide (x17_1 < (t259.length : Int)) = true := decide_eq_true c28
        clear c28
        by_cases c29 : (wrap64 (((rd_T95 t259 x17_1).f0) + ((rd_T95 t259 x17_1).f1))) > (t253.length : Int)
        ·rw [if_pos c29] at H
         have c29b0 : decide ((t253.length : Int) < (wrap64 (((rd_T95 t259 x17_1).f0) + ((rd_T95 t259 x17_1).f1)))) = true := decide_eq_true c29
         clear c29
         simp only [Option.some.injEq, Prod.mk.injEq] at H
         obtain ⟨rfl, rfl, rfl, rfl, rfl⟩ := H
         obtain ⟨Ao30, co30, eo30⟩ := Kd.R_slice HO_14.out
         subst eo30
         try go_wp2
         have n0_ := HO_6
         have n1_ := Ad.mk (Kd.R_drew HO_10.out)
         have n2_ := Ad.mk (Kd.R_drew HO_14.out)
         have n3_ := Ad.mk (Kd.R_drew HO_15.out)
         have n4_ := Ad.mk (Kd.R_drew HO_270002.out)
         have n5_ := Ad.mk (bkD BK251.out)
         have n6_ := Ad.mk (bkD BK252.out)
         have n7_ := Ad.mk (bkD BK269.out)
         have n8_ := Ad.mk (Kept.drew HK.out)
         have n9_ := Ad.mk (bw1 HB.out)
         clear HO_6
         clear HO_10
         clear HO_14
         clear HO_15
         clear HO_270002
         clear BK251
         clear BK252
         clear BK269
         clear HK
         clear HB
         have HO_6 := n0_
         have HO_10 := n1_
         have HO_14 := n2_
         have HO_15 := n3_
         have HO_270002 := n4_
         have BK251 := n5_
         have BK252 := n6_
         have BK269 := n7_
         have HK := n8_
         have HB := n9_
         clear n0_ n1_ n2_ n3_ n4_ n5_ n6_ n7_ n8_ n9_
         obtain ⟨Ao32, co32, eo32⟩ := Kd.R_slice HO_10.out
         (first | subst eo32 | (injection eo32 with f1_ f2_ f3_; have f4_ := f1_.symm; have f5_ := f3_.symm; clear f1_ f2_ f3_; subst f4_; subst f5_))
         have p276 : 0 ≤ (x17_1 : Int) := of_decide_eq_true (by first | (with_reducible assumption) | assumption)
         have q276 : x17_1 < (t259.length : Int) := of_decide_eq_true (by first | (with_reducible assumption) | assumption)
         obtain ⟨ad276, e276, hx276_0, hx276_1⟩ := at_T95 (Kd.R_reads' HO_10.out).2.2 x17_1 p276 q276
         cases e276
         replace p276 := eq_true p276
         replace q276 := eq_true q276
         have p277 : 0 ≤ (x17_1 : Int) := of_decide_eq_true (by first | (with_reducible assumption) | assumption)
         have q277 : x17_1 < (t259.length : Int) := of_decide_eq_true (by first | (with_reducible assumption) | assumption)
         obtain ⟨ad277, e277, hx277_0, hx277_1⟩ := at_T95 (Kd.R_reads' HO_10.out).2.2 x17_1 p277 q277
         obtain rfl : ad276 = ad277 := (by injection e277)
         replace p277 := eq_true p277
         replace q277 := eq_true q277
         refine start_ (n := 14) (S := fun w' => w'.cell? (ad276.add ((x17_1).toNat * 2)) = some (.int .i64 ((rd_T95 t259 x17_1).f0)) ∧ w'.cell? ⟨(ad276.add ((x17_1).toNat * 2)).block, (ad276.add ((x17_1).toNat * 2)).off + 1, none⟩ = some (.int .i64 ((rd_T95 t259 x17_1).f1)) ∧ w'.cell? (ad276.add ((x17_1).toNat * 2)) = some (.int .i64 ((rd_T95 t259 x17_1).f0)) ∧ w'.cell? ⟨(ad276.add ((x17_1).toNat * 2)).block, (ad276.add ((x17_1).toNat * 2)).off + 1, none⟩ = some (.int .i64 ((rd_T95 t259 x17_1).f1))) (ds := []) #[false, false, false, false, false, false, false, false, false, false, false, false, false, false] (by kernel_rfl) rfl rfl ⟨hx276_0, hx276_1, hx277_0, hx277_1⟩ (fun hHeld => ?_); refine with_tabW r14_Load.tab15 r14_Load.bits15 (fun HT_ HW_ => ?_)
         generalize wr.drew = w31 at HO_10 HO_14 HO_15 HO_270002 BK251 BK252 BK269 HK HB hx276_0 hx276_1 hx277_0 hx277_1 hHeld ⊢
         refine pure_ (i := 0) (N := some 57) (v := ?_) (a' := ?_) #[true, false, false, false, false, false, false, false, false, false, false, false, false, false] rfl rfl (any_of HT_.out (by kernel_rfl)) (fun _ _ _ h => h) (Or.inl ⟨by rfl, ?_⟩) ?_ ?_
         rotate_left
         ·intro w'
          go_simp
          with_reducible rfl
         rotate_left
         ·simp only [Act.put, List.setIfInBounds_toArray, List.set_cons_zero, List.set_cons_succ, i64_w]
          rfl
         refine pure_ (i := 1) (N := some 58) (v := ?_) (a' := ?_) #[true, true, false, false, false, false, false, false, false, false, false, false, false, false] rfl rfl (any_of HT_.out (by kernel_rfl)) (fun _ _ _ h => h) (Or.inl ⟨by rfl, ?_⟩) ?_ ?_
         rotate_left
         ·intro w'
          go_simp
          with_reducible rfl
         rotate_left
         ·simp only [Act.put, List.setIfInBounds_toArray, List.set_cons_zero, List.set_cons_succ, i64_w]
          rfl
         refine pure_ (i := 2) (N := some 59) (v := ?_) (a' := ?_) #[true, true, true, false, false, false, false, false, false, false, false, false, false, false] rfl rfl (any_of HT_.out (by kernel_rfl)) (fun _ _ _ h => h) (Or.inl ⟨by rfl, ?_⟩) ?_ ?_
         rotate_left
         ·intro w'
          go_simp
          with_reducible rfl
         rotate_left
         ·simp only [Act.put, List.setIfInBounds_toArray, List.set_cons_zero, List.set_cons_succ, i64_w]
          rfl
         refine pure_ (i := 3) (N := some 60) (v := ?_) (a' := ?_) #[true, true, true, true, false, false, false, false, false, false, false, false, false, false] rfl rfl (any_of HT_.out (by kernel_rfl)) (fun _ _ _ h => h) (Or.inl ⟨by rfl, ?_⟩) ?_ ?_
         rotate_left
         ·intro w'
          go_simp
          with_reducible rfl
         rotate_left
         ·simp only [Act.put, List.setIfInBounds_toArray, List.set_cons_zero, List.set_cons_succ, i64_w]
          rfl
         refine pure_ (i := 5) (N := some 62) (v := ?_) (a' := ?_) #[true, true, true, true, false, true, false, false, false, false, false, false, false, false] rfl rfl (any_of HT_.out (by kernel_rfl)) (fun _ _ _ h => h) (Or.inl ⟨by rfl, ?_⟩) ?_ ?_
         rotate_left
         ·intro w'
          go_simp
          with_reducible rfl
         rotate_left
         ·simp only [Act.put, List.setIfInBounds_toArray, List.set_cons_zero, List.set_cons_succ, i64_w]
          rfl
         refine pure_ (i := 6) (N := some 63) (v := ?_) (a' := ?_) #[true, true, true, true, false, true, true, false, false, false, false, false, false, false] rfl rfl (any_of HT_.out (by kernel_rfl)) (fun _ _ _ h => h) (Or.inl ⟨by rfl, ?_⟩) ?_ ?_
         rotate_left
         ·intro w'
          go_simp
          with_reducible rfl
         rotate_left
         ·simp only [Act.put, List.setIfInBounds_toArray, List.set_cons_zero, List.set_cons_succ, i64_w]
          rfl
         refine pure_ (i := 7) (N := some 64) (v := ?_) (a' := ?_) #[true, true, true, true, false, true, true, true, false, false, false, false, false, false] rfl rfl (any_of HT_.out (by kernel_rfl)) (fun _ _ _ h => h) (Or.inl ⟨by rfl, ?_⟩) ?_ ?_
         rotate_left
         ·intro w'
          go_simp
          with_reducible rfl
         rotate_left
         ·simp only [Act.put, List.setIfInBounds_toArray, List.set_cons_zero, List.set_cons_succ, i64_w]
          rfl
         refine pure_ (i := 8) (N := some 65) (v := ?_) (a' := ?_) #[true, true, true, true, false, true, true, true, true, false, false, false, false, false] rfl rfl (any_of HT_.out (by kernel_rfl)) (fun _ _ _ h => h) (Or.inl ⟨by rfl, ?_⟩) ?_ ?_
         rotate_left
         ·intro w'
          go_simp
          with_reducible rfl
         rotate_left
         ·simp only [Act.put, List.setIfInBounds_toArray, List.set_cons_zero, List.set_cons_succ, i64_w]
          rfl
         refine pure_ (i := 11) (N := some 68) (v := ?_) (a' := ?_) #[true, true, true, true, false, true, true, true, true, false, false, true, false, false] rfl rfl (any_of HT_.out (by kernel_rfl)) (fun _ _ _ h => h) (Or.inl ⟨by rfl, ?_⟩) ?_ ?_
         rotate_left
         ·intro w'
          go_simp
          with_reducible rfl
         rotate_left
         ·simp only [Act.put, List.setIfInBounds_toArray, List.set_cons_zero, List.set_cons_succ, i64_w]
          rfl
         refine pure_ (i := 12) (N := some 69) (v := ?_) (a' := ?_) #[true, true, true, true, false, true, true, true, true, false, false, true, true, false] rfl rfl (any_of HT_.out (by kernel_rfl)) (fun _ _ _ h => h) (Or.inl ⟨by rfl, ?_⟩) ?_ ?_
         rotate_left
         ·intro w'
          go_simp
          with_reducible rfl
         rotate_left
         ·simp only [Act.put, List.setIfInBounds_toArray, List.set_cons_zero, List.set_cons_succ, i64_w]
          rfl
         refine take_ (i := 4) (N := some 61) (v := ?_) (a' := ?_) #[true, true, true, true, true, true, true, true, true, false, false, true, true, false] rfl rfl (take_ofW HT_.out HW_.out (by kernel_rfl)) (fun _ _ _ h => h) (Or.inl ⟨by rfl, ?_⟩) hHeld ?_ ?_
         rotate_left
         ·rintro w' ⟨s0, s1, s2, s3⟩
          go_simp
          with_reducible rfl
         rotate_left
         ·simp only [Act.put, List.setIfInBounds_toArray, List.set_cons_zero, List.set_cons_succ, i64_w]
          rfl
         refine take_ (i := 9) (N := some 66) (v := ?_) (a' := ?_) #[true, true, true, true, true, true, true, true, true, true, false, true, true, false] rfl rfl (take_ofW HT_.out HW_.out (by kernel_rfl)) (fun _ _ _ h => h) (Or.inl ⟨by rfl, ?_⟩) hHeld ?_ ?_
         rotate_left
         ·rintro w' ⟨s0, s1, s2, s3⟩
          go_simp
          with_reducible rfl
         rotate_left
         ·simp only [Act.put, List.setIfInBounds_toArray, List.set_cons_zero, List.set_cons_succ, i64_w]
          rfl
         refine pure_ (i := 10) (N := some 67) (v := ?_) (a' := ?_) #[true, true, true, true, true, true, true, true, true, true, true, true, true, false] rfl rfl (any_of HT_.out (by kernel_rfl)) (fun _ _ _ h => h) (Or.inl ⟨by rfl, ?_⟩) ?_ ?_
         rotate_left
         ·intro w'
          go_simp
          with_reducible rfl
         rotate_left
         ·simp only [Act.put, List.setIfInBounds_toArray, List.set_cons_zero, List.set_cons_succ, i64_w]
          rfl
         refine pure_ (i := 13) (N := some 70) (v := ?_) (a' := ?_) #[true, true, true, true, true, true, true, true, true, true, true, true, true, true] rfl rfl (any_of HT_.out (by kernel_rfl)) (fun _ _ _ h => h) (Or.inl ⟨by rfl, ?_⟩) ?_ ?_
         rotate_left
         ·intro w'
          go_simp
          with_reducible rfl
         rotate_left
         ·simp only [Act.put, List.setIfInBounds_toArray, List.set_cons_zero, List.set_cons_succ, i64_w]
          rfl
         refine done_ (done_of HT_.out (by kernel_rfl)) ?_
         have hnb33 := NB252_251.out
         have hnc33 := NB251_252.out
         have hnb34 := NB252_269.out
         have hnc34 := NB269_252.out
         have hcz35_0 : w31.cell? ⟨gb252, 0, none⟩ = some (.int .i64 0) := (bkC BK252.out 0).trans rfl
         have hcz35_1 : w31.cell? ⟨gb252, 1, none⟩ = some (.int .i64 0) := (bkC BK252.out 1).trans rfl
         have hcz35_2 : w31.cell? ⟨gb252, 2, none⟩ = some (.slice none 0 0) := (bkC BK252.out 2).trans rfl
         have hfz35_0 := bkF BK252.out 0
         have hfz35_1 := bkF BK252.out 1
         have hfz35_2 := bkF BK252.out 2
         have hnb36 := NB251_269.out
         have hnc36 := NB269_251.out
         have hcz37_0 : w31.cell? ⟨gb251, 0, none⟩ = some (.int .i64 x252000_1) := (bkC BK251.out 0).trans rfl
         have hcz37_1 : w31.cell? ⟨gb251, 1, none⟩ = some (.int .i64 x252001_1) := (bkC BK251.out 1).trans rfl
         have hcz37_2 : w31.cell? ⟨gb251, 2, none⟩ = some (.slice none 0 0) := (bkC BK251.out 2).trans rfl
         have hfz37_0 := bkF BK251.out 0
         have hfz37_1 := bkF BK251.out 1
         have hfz37_2 := bkF BK251.out 2
         try go_wp2
         refine bodyPost_ret (results_ctt rfl _ _ gb251 53 #[.int .i64 0, .int .i64 0, .slice none 0 0] (0, 0) _ rfl (by (with_reducible repeat (first | refine bkN ?_ _ | refine bkD ?_ | refine bkA ?_ _)); refine blk_put (cs := #[.int .i64 0, .int .i64 0, .slice none 0 0]) ?_ 2 _ rfl; (with_reducible repeat (first | refine bkN ?_ _ | refine bkD ?_ | refine bkA ?_ _)); refine blk_put (cs := #[.int .i64 0, .int .i64 x252001_1, .slice none 0 0]) ?_ 1 _ rfl; (with_reducible repeat (first | refine bkN ?_ _ | refine bkD ?_ | refine bkA ?_ _)); refine blk_put (cs := #[.int .i64 x252000_1, .int .i64 x252001_1, .slice none 0 0]) ?_ 0 _ rfl; (with_reducible repeat (first | refine bkN ?_ _ | refine bkD ?_ | refine bkA ?_ _)); exact BK251.out) Tryz.underlying53 rfl (by kernel_rfl)) rfl ?_
         exact ⟨_, _, by first | rfl | (simp [errW_none, errW_some] <;> rfl) | (simp [*, errW_none, errW_some] <;> rfl), by first | exact Kd.R_nil _ _ _ _ _ | exact Kd.N_nil _ _ _ _ _ | exact Kd.V_nil _ _ _ _ _ | exact Kd.Q_nil _ _ _ _ _ | exact Kd.S_nil _ _ _ _ _, by first | exact Kd.R_nil _ _ _ _ _ | exact Kd.N_nil _ _ _ _ _ | exact Kd.V_nil _ _ _ _ _ | exact Kd.Q_nil _ _ _ _ _ | exact Kd.S_nil _ _ _ _ _, by repeat (first | (with_reducible first | exact HB.out | apply bwA | apply bwN | apply bw1 | refine bwS ?_ GE251.out | refine bwS ?_ GE252.out | refine bwS ?_ GE269.out) | exact HB.out), by repeat (first | (with_reducible first | exact HK.out | apply Kept.alloc | apply Kept.drewN | apply Kept.drew | refine Kept.setCell ?_ (.inr GW251.out) _ | refine Kept.setCell ?_ (.inr GW252.out) _ | refine Kept.setCell ?_ (.inr GW269.out) _) | exact HK.out)⟩
        ·rw [if_neg c29] at H
         have c29b0 : decide ((t253.length : Int) < (wrap64 (((rd_T95 t259 x17_1).f0) + ((rd_T95 t259 x17_1).f1)))) = false := decide_eq_false c29
         clear c29
         replace H := Option.bind_eq_some_iff.mp H
         obtain ⟨⟨t279, t280⟩, A380, H⟩ := H
         replace H : (if 0 ≤ ((rd_T95 t259 x17_1).f0) then (if ((rd_T95 t259 x17_1).f0) ≤ (wrap64 (((rd_T95 t259 x17_1).f0) + ((rd_T95 t259 x17_1).f1))) then (if (wrap64 (((rd_T95 t259 x17_1).f0) + ((rd_T95 t259 x17_1).f1))) ≤ (t253.length : Int) then ((r06_Get.f k1 ((t253.take ((wrap64 (((rd_T95 t259 x17_1).f0) + ((rd_T95 t259 x17_1).f1))) : Int).toNat).drop (((rd_T95 t259 x17_1).f0) : Int).toNat) t279 t280).bind fun bt288 => (if bt288.2.2 = 0 then ((r09_Paste.f k1 x270000_1 x270001_1 x270002_1 ((rd_T23 t270 x17_1).f0) ((rd_T23 t270 x17_1).f1) ((rd_T23 t270 x17_1).f2) ((rd_T23 t270 x17_1).f3) bt288.1).bind fun bt294 => (if x15_1.length < 17592186044416 then (r14_Load.l0 k1 t253 t259 t270 (x15_1 ++ [bt288.2.1]) (wrap64 (((rd_T95 t259 x17_1).f0) + ((rd_T95 t259 x17_1).f1))) (wrap64 (x17_1 + 1)) 0 0 bt294.1 bt294.2.1 bt294.2.2.1) else (none))) else (some (0, 0, ([] : List Int), ([] : List Int), false)))) else (none)) else (none)) else (none)) = some (r1, r2, r3, r4, r5) := H
         have A38 := Ad.mk A380
         clear A380
         by_cases c39 : 0 ≤ ((rd_T95 t259 x17_1).f0)
         ·rw [if_pos c39] at H
          have c39b0 := eq_true c39
          have c39b1 : decide (0 ≤ ((rd_T95 t259 x17_1).f0)) = true := decide_eq_true c39
          clear c39
          by_cases c40 : ((rd_T95 t259 x17_1).f0) ≤ (wrap64 (((rd_T95 t259 x17_1).f0) + ((rd_T95 t259 x17_1).f1)))
          ·rw [if_pos c40] at H
           have c40b0 := eq_true c40
           have c40b1 : decide (((rd_T95 t259 x17_1).f0) ≤ (wrap64 (((rd_T95 t259 x17_1).f0) + ((rd_T95 t259 x17_1).f1)))) = true := decide_eq_true c40
           by_cases c41 : (wrap64 (((rd_T95 t259 x17_1).f0) + ((rd_T95 t259 x17_1).f1))) ≤ (t253.length : Int)
           ·rw [if_pos c41] at H
            have c41b0 := eq_true c41
            have c41b1 : decide ((wrap64 (((rd_T95 t259 x17_1).f0) + ((rd_T95 t259 x17_1).f1))) ≤ (t253.length : Int)) = true := decide_eq_true c41
            obtain ⟨y284, hy284⟩ : ∃ y_ : List Int, y_ = ((t253.take ((wrap64 (((rd_T95 t259 x17_1).f0) + ((rd_T95 t259 x17_1).f1))) : Int).toNat).drop (((rd_T95 t259 x17_1).f0) : Int).toNat) := ⟨_, rfl⟩
            replace H : ((r06_Get.f k1 y284 t279 t280).bind fun bt288 => (if bt288.2.2 = 0 then ((r09_Paste.f k1 x270000_1 x270001_1 x270002_1 ((rd_T23 t270 x17_1).f0) ((rd_T23 t270 x17_1).f1) ((rd_T23 t270 x17_1).f2) ((rd_T23 t270 x17_1).f3) bt288.1).bind fun bt294 => (if x15_1.length < 17592186044416 then (r14_Load.l0 k1 t253 t259 t270 (x15_1 ++ [bt288.2.1]) (wrap64 (((rd_T95 t259 x17_1).f0) + ((rd_T95 t259 x17_1).f1))) (wrap64 (x17_1 + 1)) 0 0 bt294.1 bt294.2.1 bt294.2.2.1) else (none))) else (some (0, 0, ([] : List Int), ([] : List Int), false)))) = some (r1, r2, r3, r4, r5) := by first | (rw [hy284]; with_reducible exact H) | (have H2_ := (Option.bind_some _ _).symm.trans H; rw [hy284]; with_reducible exact H2_) | (have H2_ := (Option.bind_some _ _).symm.trans H; with_reducible exact H2_) | with_reducible exact H | (rw [hy284]; exact H) | exact H
            have Ny284 := Ad.mk hy284
            clear hy284
            replace H := Option.bind_eq_some_iff.mp H
            obtain ⟨⟨t288, t289, t290⟩, A420, H⟩ := H
            replace H : (if t290 = 0 then ((r09_Paste.f k1 x270000_1 x270001_1 x270002_1 ((rd_T23 t270 x17_1).f0) ((rd_T23 t270 x17_1).f1) ((rd_T23 t270 x17_1).f2) ((rd_T23 t270 x17_1).f3) t288).bind fun bt294 => (if x15_1.length < 17592186044416 then (r14_Load.l0 k1 t253 t259 t270 (x15_1 ++ [t289]) (wrap64 (((rd_T95 t259 x17_1).f0) + ((rd_T95 t259 x17_1).f1))) (wrap64 (x17_1 + 1)) 0 0 bt294.1 bt294.2.1 bt294.2.2.1) else (none))) else (some (0, 0, ([] : List Int), ([] : List Int), false))) = some (r1, r2, r3, r4, r5) := H
            have A42 := Ad.mk A420
            clear A420
            by_cases c43 : t290 = 0
            ·rw [if_pos c43] at H
             have c43b0 : (t290 == 0) = true := beq_iff_eq.mpr c43
             have c43b1 : (t290 != 0) = false := bne_eq_false_iff_eq.mpr c43
             clear c43
             replace H := Option.bind_eq_some_iff.mp H
             obtain ⟨⟨t294, t295, t296, t299⟩, A440, H⟩ := H
             replace H : (if x15_1.length < 17592186044416 then (r14_Load.l0 k1 t253 t259 t270 (x15_1 ++ [t289]) (wrap64 (((rd_T95 t259 x17_1).f0) + ((rd_T95 t259 x17_1).f1))) (wrap64 (x17_1 + 1)) 0 0 t294 t295 t296) else (none)) = some (r1, r2, r3, r4, r5) := H
             have A44 := Ad.mk A440
             clear A440
             by_cases c45 : x15_1.length < 17592186044416
             ·rw [if_pos c45] at H
              have LMc45 := Ad.mk c45
              clear c45
              obtain ⟨y300, hy300⟩ : ∃ y_ : List Int, y_ = (x15_1 ++ [t289]) := ⟨_, rfl⟩
              replace H : (r14_Load.l0 k1 t253 t259 t270 y300 (wrap64 (((rd_T95 t259 x17_1).f0) + ((rd_T95 t259 x17_1).f1))) (wrap64 (x17_1 + 1)) 0 0 t294 t295 t296) = some (r1, r2, r3, r4, r5) := by first | (rw [hy300]; with_reducible exact H) | (have H2_ := (Option.bind_some _ _).symm.trans H; rw [hy300]; with_reducible exact H2_) | (have H2_ := (Option.bind_some _ _).symm.trans H; with_reducible exact H2_) | with_reducible exact H | (rw [hy300]; exact H) | exact H
              have Ny300 := Ad.mk hy300
              clear hy300
              have H' := Ad.mk H
              clear H
              obtain ⟨Ao46, co46, eo46⟩ := Kd.R_slice HO_14.out
              subst eo46
              try go_wp2
              have n0_ := HO_6
              have n1_ := Ad.mk (Kd.R_drew HO_10.out)
              have n2_ := Ad.mk (Kd.R_drew HO_14.out)
              have n3_ := Ad.mk (Kd.R_drew HO_15.out)
              have n4_ := Ad.mk (Kd.R_drew HO_270002.out)
              have n5_ := Ad.mk (bkD BK251.out)
              have n6_ := Ad.mk (bkD BK252.out)
              have n7_ := Ad.mk (bkD BK269.out)
              have n8_ := Ad.mk (Kept.drew HK.out)
              have n9_ := Ad.mk (bw1 HB.out)
              clear HO_6
              clear HO_10
              clear HO_14
              clear HO_15
              clear HO_270002
              clear BK251
              clear BK252
              clear BK269
              clear HK
              clear HB
              have HO_6 := n0_
              have HO_10 := n1_
              have HO_14 := n2_
              have HO_15 := n3_
              have HO_270002 := n4_
              have BK251 := n5_
              have BK252 := n6_
              have BK269 := n7_
              have HK := n8_
              have HB := n9_
              clear n0_ n1_ n2_ n3_ n4_ n5_ n6_ n7_ n8_ n9_
              obtain ⟨Ao48, co48, eo48⟩ := Kd.R_slice HO_10.out
              (first | subst eo48 | (injection eo48 with f1_ f2_ f3_; have f4_ := f1_.symm; have f5_ := f3_.symm; clear f1_ f2_ f3_; subst f4_; subst f5_))
              have p276 : 0 ≤ (x17_1 : Int) := of_decide_eq_true (by first | (with_reducible assumption) | assumption)
              have q276 : x17_1 < (t259.length : Int) := of_decide_eq_true (by first | (with_reducible assumption) | assumption)
              obtain ⟨ad276, e276, hx276_0, hx276_1⟩ := at_T95 (Kd.R_reads' HO_10.out).2.2 x17_1 p276 q276
              cases e276
              replace p276 := eq_true p276
              replace q276 := eq_true q276
              have p277 : 0 ≤ (x17_1 : Int) := of_decide_eq_true (by first | (with_reducible assumption) | assumption)
              have q277 : x17_1 < (t259.length : Int) := of_decide_eq_true (by first | (with_reducible assumption) | assumption)
              obtain ⟨ad277, e277, hx277_0, hx277_1⟩ := at_T95 (Kd.R_reads' HO_10.out).2.2 x17_1 p277 q277
              obtain rfl : ad276 = ad277 := (by injection e277)
              replace p277 := eq_true p277
              replace q277 := eq_true q277
              refine start_ (n := 14) (S := fun w' => w'.cell? (ad276.add ((x17_1).toNat * 2)) = some (.int .i64 ((rd_T95 t259 x17_1).f0)) ∧ w'.cell? ⟨(ad276.add ((x17_1).toNat * 2)).block, (ad276.add ((x17_1).toNat * 2)).off + 1, none⟩ = some (.int .i64 ((rd_T95 t259 x17_1).f1)) ∧ w'.cell? (ad276.add ((x17_1).toNat * 2)) = some (.int .i64 ((rd_T95 t259 x17_1).f0)) ∧ w'.cell? ⟨(ad276.add ((x17_1).toNat * 2)).block, (ad276.add ((x17_1).toNat * 2)).off + 1, none⟩ = some (.int .i64 ((rd_T95 t259 x17_1).f1))) (ds := []) #[false, false, false, false, false, false, false, false, false, false, false, false, false, false] (by kernel_rfl) rfl rfl ⟨hx276_0, hx276_1, hx277_0, hx277_1⟩ (fun hHeld => ?_); refine with_tabW r14_Load.tab15 r14_Load.bits15 (fun HT_ HW_ => ?_)
              generalize wr.drew = w47 at HO_10 HO_14 HO_15 HO_270002 BK251 BK252 BK269 HK HB hx276_0 hx276_1 hx277_0 hx277_1 hHeld ⊢
              refine pure_ (i := 0) (N := some 57) (v := ?_) (a' := ?_) #[true, false, false, false, false, false, false, false, false, false, false, false, false, false] rfl rfl (any_of HT_.out (by kernel_rfl)) (fun _ _ _ h => h) (Or.inl ⟨by rfl, ?_⟩) ?_ ?_
              rotate_left
              ·intro w'
               go_simp
               with_reducible rfl
              rotate_left
              ·simp only [Act.put, List.setIfInBounds_toArray, List.set_cons_zero, List.set_cons_succ, i64_w]
               rfl
              refine pure_ (i := 1) (N := some 58) (v := ?_) (a' := ?_) #[true, true, false, false, false, false, false, false, false, false, false, false, false, false] rfl rfl (any_of HT_.out (by kernel_rfl)) (fun _ _ _ h => h) (Or.inl ⟨by rfl, ?_⟩) ?_ ?_
              rotate_left
              ·intro w'
               go_simp
               with_reducible rfl
              rotate_left
              ·simp only [Act.put, List.setIfInBounds_toArray, List.set_cons_zero, List.set_cons_succ, i64_w]
               rfl
              refine pure_ (i := 2) (N := some 59) (v := ?_) (a' := ?_) #[true, true, true, false, false, false, false, false, false, false, false, false, false, false] rfl rfl (any_of HT_.out (by kernel_rfl)) (fun _ _ _ h => h) (Or.inl ⟨by rfl, ?_⟩) ?_ ?_
              rotate_left
              ·intro w'
               go_simp
               with_reducible rfl
              rotate_left
              ·simp only [Act.put, List.setIfInBounds_toArray, List.set_cons_zero, List.set_cons_succ, i64_w]
               rfl
              refine pure_ (i := 3) (N := some 60) (v := ?_) (a' := ?_) #[true, true, true, true, false, false, false, false, false, false, false, false, false, false] rfl rfl (any_of HT_.out (by kernel_rfl)) (fun _ _ _ h => h) (Or.inl ⟨by rfl, ?_⟩) ?_ ?_
              rotate_left
              ·intro w'
               go_simp
               with_reducible rfl
              rotate_left
              ·simp only [Act.put, List.setIfInBounds_toArray, List.set_cons_zero, List.set_cons_succ, i64_w]
               rfl
              refine pure_ (i := 5) (N := some 62) (v := ?_) (a' := ?_) #[true, true, true, true, false, true, false, false, false, false, false, false, false, false] rfl rfl (any_of HT_.out (by kernel_rfl)) (fun _ _ _ h => h) (Or.inl ⟨by rfl, ?_⟩) ?_ ?_
              rotate_left
              ·intro w'
               go_simp
               with_reducible rfl
              rotate_left
              ·simp only [Act.put, List.setIfInBounds_toArray, List.set_cons_zero, List.set_cons_succ, i64_w]
               rfl
              refine pure_ (i := 6) (N := some 63) (v := ?_) (a' := ?_) #[true, true, true, true, false, true, true, false, false, false, false, false, false, false] rfl rfl (any_of HT_.out (by kernel_rfl)) (fun _ _ _ h => h) (Or.inl ⟨by rfl, ?_⟩) ?_ ?_
              rotate_left
              ·intro w'
               go_simp
               with_reducible rfl
              rotate_left
              ·simp only [Act.put, List.setIfInBounds_toArray, List.set_cons_zero, List.set_cons_succ, i64_w]
               rfl
              refine pure_ (i := 7) (N := some 64) (v := ?_) (a' := ?_) #[true, true, true, true, false, true, true, true, false, false, false, false, false, false] rfl rfl (any_of HT_.out (by kernel_rfl)) (fun _ _ _ h => h) (Or.inl ⟨by rfl, ?_⟩) ?_ ?_
              rotate_left
              ·intro w'
               go_simp
               with_reducible rfl
              rotate_left
              ·simp only [Act.put, List.setIfInBounds_toArray, List.set_cons_zero, List.set_cons_succ, i64_w]
               rfl
              refine pure_ (i := 8) (N := some 65) (v := ?_) (a' := ?_) #[true, true, true, true, false, true, true, true, true, false, false, false, false, false] rfl rfl (any_of HT_.out (by kernel_rfl)) (fun _ _ _ h => h) (Or.inl ⟨by rfl, ?_⟩) ?_ ?_
              rotate_left
              ·intro w'
               go_simp
               with_reducible rfl
              rotate_left
              ·simp only [Act.put, List.setIfInBounds_toArray, List.set_cons_zero, List.set_cons_succ, i64_w]
               rfl
              refine pure_ (i := 11) (N := some 68) (v := ?_) (a' := ?_) #[true, true, true, true, false, true, true, true, true, false, false, true, false, false] rfl rfl (any_of HT_.out (by kernel_rfl)) (fun _ _ _ h => h) (Or.inl ⟨by rfl, ?_⟩) ?_ ?_
              rotate_left
              ·intro w'
               go_simp
               with_reducible rfl
              rotate_left
              ·simp only [Act.put, List.setIfInBounds_toArray, List.set_cons_zero, List.set_cons_succ, i64_w]
               rfl
              refine pure_ (i := 12) (N := some 69) (v := ?_) (a' := ?_) #[true, true, true, true, false, true, true, true, true, false, false, true, true, false] rfl rfl (any_of HT_.out (by kernel_rfl)) (fun _ _ _ h => h) (Or.inl ⟨by rfl, ?_⟩) ?_ ?_
              rotate_left
              ·intro w'
               go_simp
               with_reducible rfl
              rotate_left
              ·simp only [Act.put, List.setIfInBounds_toArray, List.set_cons_zero, List.set_cons_succ, i64_w]
               rfl
              refine take_ (i := 4) (N := some 61) (v := ?_) (a' := ?_) #[true, true, true, true, true, true, true, true, true, false, false, true, true, false] rfl rfl (take_ofW HT_.out HW_.out (by kernel_rfl)) (fun _ _ _ h => h) (Or.inl ⟨by rfl, ?_⟩) hHeld ?_ ?_
              rotate_left
              ·rintro w' ⟨s0, s1, s2, s3⟩
               go_simp
               with_reducible rfl
              rotate_left
              ·simp only [Act.put, List.setIfInBounds_toArray, List.set_cons_zero, List.set_cons_succ, i64_w]
               rfl
              refine take_ (i := 9) (N := some 66) (v := ?_) (a' := ?_) #[true, true, true, true, true, true, true, true, true, true, false, true, true, false] rfl rfl (take_ofW HT_.out HW_.out (by kernel_rfl)) (fun _ _ _ h => h) (Or.inl ⟨by rfl, ?_⟩) hHeld ?_ ?_
              rotate_left
              ·rintro w' ⟨s0, s1, s2, s3⟩
               go_simp
               with_reducible rfl
              rotate_left
              ·simp only [Act.put, List.setIfInBounds_toArray, List.set_cons_zero, List.set_cons_succ, i64_w]
               rfl
              refine pure_ (i := 10) (N := some 67) (v := ?_) (a' := ?_) #[true, true, true, true, true, true, true, true, true, true, true, true, true, false] rfl rfl (any_of HT_.out (by kernel_rfl)) (fun _ _ _ h => h) (Or.inl ⟨by rfl, ?_⟩) ?_ ?_
              rotate_left
              ·intro w'
               go_simp
               with_reducible rfl
              rotate_left
              ·simp only [Act.put, List.setIfInBounds_toArray, List.set_cons_zero, List.set_cons_succ, i64_w]
               rfl
              refine pure_ (i := 13) (N := some 70) (v := ?_) (a' := ?_) #[true, true, true, true, true, true, true, true, true, true, true, true, true, true] rfl rfl (any_of HT_.out (by kernel_rfl)) (fun _ _ _ h => h) (Or.inl ⟨by rfl, ?_⟩) ?_ ?_
              rotate_left
              ·intro w'
               go_simp
               with_reducible rfl
              rotate_left
              ·simp only [Act.put, List.setIfInBounds_toArray, List.set_cons_zero, List.set_cons_succ, i64_w]
               rfl
              refine done_ (done_of HT_.out (by kernel_rfl)) ?_
              have p278 : 0 ≤ (x17_1 : Int) := of_decide_eq_true (by first | (with_reducible assumption) | assumption)
              have q278 : x17_1 < (t270.length : Int) := of_decide_eq_true (by first | (with_reducible assumption) | assumption)
              obtain ⟨ad278, e278, hx278_0, hx278_1, hx278_2, hx278_3⟩ := at_T23 (Kd.R_reads' HO_14.out).2.2 x17_1 p278 q278
              cases e278
              replace p278 := eq_true p278
              replace q278 := eq_true q278
              try go_wp2_with (first | ((with_reducible refine gate_callee (f := 31) rfl ?_); refine goesL_ (some 77) rfl rfl Tryz.func31 (by kernel_rfl) rfl #[.agg #[.int .i64 ((rd_T23 t270 x17_1).f0), .int .i64 ((rd_T23 t270 x17_1).f1), .int .i64 ((rd_T23 t270 x17_1).f2), .int .i64 ((rd_T23 t270 x17_1).f3)]] rfl (by (try simp only [List.map_toArray, List.map_cons, List.map_nil]); first | done | rfl | (simp only [List.length_drop, List.length_take]; rfl)) ?_; (with_reducible refine (r14_size.calls ((rd_T23 t270 x17_1).f0) ((rd_T23 t270 x17_1).f1) ((rd_T23 t270 x17_1).f2) ((rd_T23 t270 x17_1).f3) t279 t280 _ A38.out).mono ?_); rintro e w49 ⟨rfl, hb⟩; refine ⟨_, rfl, ?_⟩; have n0_ := HO_6; have n1_ := Ad.mk (Kd.R_below (by (with_reducible repeat (first | apply Kd.R_alloc | apply Kd.R_drewN | apply Kd.R_drew)); exact HO_10.out) hb); have n2_ := Ad.mk (Kd.R_below (by (with_reducible repeat (first | apply Kd.R_alloc | apply Kd.R_drewN | apply Kd.R_drew)); exact HO_14.out) hb); have n3_ := Ad.mk (Kd.R_below (by (with_reducible repeat (first | apply Kd.R_alloc | apply Kd.R_drewN | apply Kd.R_drew)); exact HO_15.out) hb); have n4_ := Ad.mk (Kd.R_below (by (with_reducible repeat (first | apply Kd.R_alloc | apply Kd.R_drewN | apply Kd.R_drew)); exact HO_270002.out) hb); have n5_ := Ad.mk (blk_below (g := gb251) (o := .cells #[.int .i64 x252000_1, .int .i64 x252001_1, .slice none 0 0] 53 (0, 0)) (by (with_reducible repeat (first | refine bkN ?_ _ | refine bkD ?_ | refine bkA ?_ _)); exact BK251.out) hb); have n6_ := Ad.mk (blk_below (g := gb252) (o := .cells #[.int .i64 0, .int .i64 0, .slice none 0 0] 53 (0, 0)) (by (with_reducible repeat (first | refine bkN ?_ _ | refine bkD ?_ | refine bkA ?_ _)); exact BK252.out) hb); have n7_ := Ad.mk (blk_below (g := gb269) (o := .cells #[.int .i64 x270000_1, .int .i64 x270001_1, u270002] 53 (0, 0)) (by (with_reducible repeat (first | refine bkN ?_ _ | refine bkD ?_ | refine bkA ?_ _)); exact BK269.out) hb); have n8_ := Ad.mk (Kept.below (S := (fun k_ => P0_ k_)) (by repeat (first | (with_reducible first | exact HK.out | apply Kept.alloc | apply Kept.drewN | apply Kept.drew | refine Kept.setCell ?_ (.inr GW251.out) _ | refine Kept.setCell ?_ (.inr GW252.out) _ | refine Kept.setCell ?_ (.inr GW269.out) _) | exact HK.out)) hb); have n9_ := Ad.mk (below_step (by repeat (first | (with_reducible first | exact HB.out | apply bwA | apply bwN | apply bw1 | refine bwS ?_ GE251.out | refine bwS ?_ GE252.out | refine bwS ?_ GE269.out) | exact HB.out)) hb); clear HO_6; clear HO_10; clear HO_14; clear HO_15; clear HO_270002; clear BK251; clear BK252; clear BK269; clear HK; clear HB; have HO_6 := n0_; have HO_10 := n1_; have HO_14 := n2_; have HO_15 := n3_; have HO_270002 := n4_; have BK251 := n5_; have BK252 := n6_; have BK269 := n7_; have HK := n8_; have HB := n9_; clear n0_ n1_ n2_ n3_ n4_ n5_ n6_ n7_ n8_ n9_; (try clear hb); (try clear hb2); (try clear hk); (try clear hi)))
              have n0_ := HO_6
              have n1_ := Ad.mk (Kd.R_drew HO_10.out)
              have n2_ := Ad.mk (Kd.R_drew HO_14.out)
              have n3_ := Ad.mk (Kd.R_drew HO_15.out)
              have n4_ := Ad.mk (Kd.R_drew HO_270002.out)
              have n5_ := Ad.mk (bkD BK251.out)
              have n6_ := Ad.mk (bkD BK252.out)
              have n7_ := Ad.mk (bkD BK269.out)
              have n8_ := Ad.mk (Kept.drew HK.out)
              have n9_ := Ad.mk (bw1 HB.out)
              clear HO_6
              clear HO_10
              clear HO_14
              clear HO_15
              clear HO_270002
              clear BK251
              clear BK252
              clear BK269
              clear HK
              clear HB
              have HO_6 := n0_
              have HO_10 := n1_
              have HO_14 := n2_
              have HO_15 := n3_
              have HO_270002 := n4_
              have BK251 := n5_
              have BK252 := n6_
              have BK269 := n7_
              have HK := n8_
              have HB := n9_
              clear n0_ n1_ n2_ n3_ n4_ n5_ n6_ n7_ n8_ n9_
              have p281 : 0 ≤ (x17_1 : Int) := of_decide_eq_true (by first | (with_reducible assumption) | assumption)
              have q281 : x17_1 < (t259.length : Int) := of_decide_eq_true (by first | (with_reducible assumption) | assumption)
              obtain ⟨ad281, e281, hx281_0, hx281_1⟩ := at_T95 (Kd.R_reads' HO_10.out).2.2 x17_1 p281 q281
              obtain rfl : ad276 = ad281 := (by injection e281)
              replace p281 := eq_true p281
              replace q281 := eq_true q281
              have p282 : 0 ≤ (x17_1 : Int) := of_decide_eq_true (by first | (with_reducible assumption) | assumption)
              have q282 : x17_1 < (t259.length : Int) := of_decide_eq_true (by first | (with_reducible assumption) | assumption)
              obtain ⟨ad282, e282, hx282_0, hx282_1⟩ := at_T95 (Kd.R_reads' HO_10.out).2.2 x17_1 p282 q282
              obtain rfl : ad276 = ad282 := (by injection e282)
              replace p282 := eq_true p282
              replace q282 := eq_true q282
              have p283 : 0 ≤ (x17_1 : Int) := of_decide_eq_true (by first | (with_reducible assumption) | assumption)
              have q283 : x17_1 < (t259.length : Int) := of_decide_eq_true (by first | (with_reducible assumption) | assumption)
              obtain ⟨ad283, e283, hx283_0, hx283_1⟩ := at_T95 (Kd.R_reads' HO_10.out).2.2 x17_1 p283 q283
              obtain rfl : ad276 = ad283 := (by injection e283)
              replace p283 := eq_true p283
              replace q283 := eq_true q283
              have q51 : ((wrap64 (((rd_T95 t259 x17_1).f0) + ((rd_T95 t259 x17_1).f1))) : Int) ≤ ((t253.length : Int) : Int) := of_decide_eq_true (by first | (with_reducible assumption) | assumption)
              obtain ⟨i051, hi051, _, hsz51, _⟩ := info_parts info5
              have hroom51 : t253.length ≤ co15 := HO_6.out.2
              have hC51 : Kd.C (Kd.int .u8) _ Ao15 t253.length t253 := Kd.C_below HO_6.out.1 HB.out
              have ql51 : (((rd_T95 t259 x17_1).f0) : Int) ≤ ((wrap64 (((rd_T95 t259 x17_1).f0) + ((rd_T95 t259 x17_1).f1))) : Int) := of_decide_eq_true (by first | (with_reducible assumption) | assumption)
              have q051 : (0 : Int) ≤ (((rd_T95 t259 x17_1).f0) : Int) := of_decide_eq_true (by first | (with_reducible assumption) | assumption)
              have hcut51 := cut_mid (P := Tryz.prog) 27 5 .i64 .i64 Tryz.underlying27 hi051 1 hsz51 Ao15 t253.length co15 ((rd_T95 t259 x17_1).f0) (wrap64 (((rd_T95 t259 x17_1).f0) + ((rd_T95 t259 x17_1).f1))) q051 ql51 q51 hroom51
              have hr51 := Kd.C_mid (lo := (((rd_T95 t259 x17_1).f0) : Int).toNat) (hi := ((wrap64 (((rd_T95 t259 x17_1).f0) + ((rd_T95 t259 x17_1).f1))) : Int).toNat) (c := co15) hC51 (by omega) (by omega) hroom51
              obtain ⟨A51, hA51⟩ : ∃ A1, A1 = (if co15 = (((rd_T95 t259 x17_1).f0) : Int).toNat then Ao15 else (Ao15 : Option Addr).map (·.add ((((rd_T95 t259 x17_1).f0) : Int).toNat * 1))) := ⟨_, rfl⟩
              obtain ⟨c51, hc51⟩ : ∃ c1, c1 = co15 - (((rd_T95 t259 x17_1).f0) : Int).toNat := ⟨_, rfl⟩
              have hy51 : y284.length = ((wrap64 (((rd_T95 t259 x17_1).f0) + ((rd_T95 t259 x17_1).f1))) : Int).toNat - (((rd_T95 t259 x17_1).f0) : Int).toNat := (by rw [Ny284.out, List.length_drop, List.length_take] <;> omega)
              rw [show ((t253).take ((wrap64 (((rd_T95 t259 x17_1).f0) + ((rd_T95 t259 x17_1).f1))) : Int).toNat).drop (((rd_T95 t259 x17_1).f0) : Int).toNat = y284 from Ny284.out.symm] at hr51
              replace hr51 : Kd.C (Kd.int .u8) _ A51 y284.length y284 := (by rw [hA51]; exact hr51)
              rw [← hy51, ← hA51, ← hc51] at hcut51
              have HR287 := Ad.mk hr51
              have HC287 := Ad.mk (show y284.length ≤ c51 from by rw [hy51, hc51]; exact Nat.sub_le_sub_right (Nat.le_trans (by omega) hroom51) _)
              clear hr51 hC51 hroom51 hi051 hsz51 hc51
              have KY51 := Ad.mk hy51
              have KA51 := Ad.mk hA51
              clear hy51 hA51
              have KL51 := Ad.mk (show ((wrap64 (((rd_T95 t259 x17_1).f0) + ((rd_T95 t259 x17_1).f1))) : Int).toNat ≤ t253.length from by omega)
              have KM51 := Ad.mk (show (((rd_T95 t259 x17_1).f0) : Int).toNat ≤ ((wrap64 (((rd_T95 t259 x17_1).f0) + ((rd_T95 t259 x17_1).f1))) : Int).toNat from by omega)
              replace q51 := eq_true q51
              refine start_ (n := 28) (S := fun w' => w'.cell? (ad276.add ((x17_1).toNat * 2)) = some (.int .i64 ((rd_T95 t259 x17_1).f0)) ∧ w'.cell? ⟨(ad276.add ((x17_1).toNat * 2)).block, (ad276.add ((x17_1).toNat * 2)).off + 1, none⟩ = some (.int .i64 ((rd_T95 t259 x17_1).f1)) ∧ w'.cell? (ad276.add ((x17_1).toNat * 2)) = some (.int .i64 ((rd_T95 t259 x17_1).f0)) ∧ w'.cell? ⟨(ad276.add ((x17_1).toNat * 2)).block, (ad276.add ((x17_1).toNat * 2)).off + 1, none⟩ = some (.int .i64 ((rd_T95 t259 x17_1).f1)) ∧ w'.cell? (ad276.add ((x17_1).toNat * 2)) = some (.int .i64 ((rd_T95 t259 x17_1).f0)) ∧ w'.cell? ⟨(ad276.add ((x17_1).toNat * 2)).block, (ad276.add ((x17_1).toNat * 2)).off + 1, none⟩ = some (.int .i64 ((rd_T95 t259 x17_1).f1))) (ds := []) #[false, false, false, false, false, false, false, false, false, false, false, false, false, false, false, false, false, false, false, false, false, false, false, false, false, false, false, false] (by kernel_rfl) rfl rfl ⟨hx281_0, hx281_1, hx282_0, hx282_1, hx283_0, hx283_1⟩ (fun hHeld => ?_); refine with_tabW r14_Load.tab18 r14_Load.bits18 (fun HT_ HW_ => ?_)
              generalize w49.drew = w50 at HO_10 HO_14 HO_15 HO_270002 BK251 BK252 BK269 HK HB HR287 hx281_0 hx281_1 hx282_0 hx282_1 hx283_0 hx283_1 hHeld ⊢
              refine pure_ (i := 0) (N := some 81) (v := ?_) (a' := ?_) #[true, false, false, false, false, false, false, false, false, false, false, false, false, false, false, false, false, false, false, false, false, false, false, false, false, false, false, false] rfl rfl (any_of HT_.out (by kernel_rfl)) (fun _ _ _ h => h) (Or.inl ⟨by rfl, ?_⟩) ?_ ?_
              rotate_left
              ·intro w'
               go_simp
               with_reducible rfl
              rotate_left
              ·simp only [Act.put, List.setIfInBounds_toArray, List.set_cons_zero, List.set_cons_succ, i64_w]
               rfl
              refine pure_ (i := 1) (N := some 82) (v := ?_) (a' := ?_) #[true, true, false, false, false, false, false, false, false, false, false, false, false, false, false, false, false, false, false, false, false, false, false, false, false, false, false, false] rfl rfl (any_of HT_.out (by kernel_rfl)) (fun _ _ _ h => h) (Or.inl ⟨by rfl, ?_⟩) ?_ ?_
              rotate_left
              ·intro w'
               go_simp
               with_reducible rfl
              rotate_left
              ·simp only [Act.put, List.setIfInBounds_toArray, List.set_cons_zero, List.set_cons_succ, i64_w]
               rfl
              refine pure_ (i := 2) (N := some 83) (v := ?_) (a' := ?_) #[true, true, true, false, false, false, false, false, false, false, false, false, false, false, false, false, false, false, false, false, false, false, false, false, false, false, false, false] rfl rfl (any_of HT_.out (by kernel_rfl)) (fun _ _ _ h => h) (Or.inl ⟨by rfl, ?_⟩) ?_ ?_
              rotate_left
              ·intro w'
               go_simp
               with_reducible rfl
              rotate_left
              ·simp only [Act.put, List.setIfInBounds_toArray, List.set_cons_zero, List.set_cons_succ, i64_w]
               rfl
              refine pure_ (i := 3) (N := some 84) (v := ?_) (a' := ?_) #[true, true, true, true, false, false, false, false, false, false, false, false, false, false, false, false, false, false, false, false, false, false, false, false, false, false, false, false] rfl rfl (any_of HT_.out (by kernel_rfl)) (fun _ _ _ h => h) (Or.inl ⟨by rfl, ?_⟩) ?_ ?_
              rotate_left
              ·intro w'
               go_simp
               with_reducible rfl
              rotate_left
              ·simp only [Act.put, List.setIfInBounds_toArray, List.set_cons_zero, List.set_cons_succ, i64_w]
               rfl
              refine pure_ (i := 4) (N := some 85) (v := ?_) (a' := ?_) #[true, true, true, true, true, false, false, false, false, false, false, false, false, false, false, false, false, false, false, false, false, false, false, false, false, false, false, false] rfl rfl (any_of HT_.out (by kernel_rfl)) (fun _ _ _ h => h) (Or.inl ⟨by rfl, ?_⟩) ?_ ?_
              rotate_left
              ·intro w'
               go_simp
               with_reducible rfl
              rotate_left
              ·simp only [Act.put, List.setIfInBounds_toArray, List.set_cons_zero, List.set_cons_succ, i64_w]
               rfl
              refine pure_ (i := 6) (N := some 87) (v := ?_) (a' := ?_) #[true, true, true, true, true, false, true, false, false, false, false, false, false, false, false, false, false, false, false, false, false, false, false, false, false, false, false, false] rfl rfl (any_of HT_.out (by kernel_rfl)) (fun _ _ _ h => h) (Or.inl ⟨by rfl, ?_⟩) ?_ ?_
              rotate_left
              ·intro w'
               go_simp
               with_reducible rfl
              rotate_left
              ·simp only [Act.put, List.setIfInBounds_toArray, List.set_cons_zero, List.set_cons_succ, i64_w]
               rfl
              refine pure_ (i := 7) (N := some 88) (v := ?_) (a' := ?_) #[true, true, true, true, true, false, true, true, false, false, false, false, false, false, false, false, false, false, false, false, false, false, false, false, false, false, false, false] rfl rfl (any_of HT_.out (by kernel_rfl)) (fun _ _ _ h => h) (Or.inl ⟨by rfl, ?_⟩) ?_ ?_
              rotate_left
              ·intro w'
               go_simp
               with_reducible rfl
              rotate_left
              ·simp only [Act.put, List.setIfInBounds_toArray, List.set_cons_zero, List.set_cons_succ, i64_w]
               rfl
              refine pure_ (i := 8) (N := some 89) (v := ?_) (a' := ?_) #[true, true, true, true, true, false, true, true, true, false, false, false, false, false, false, false, false, false, false, false, false, false, false, false, false, false, false, false] rfl rfl (any_of HT_.out (by kernel_rfl)) (fun _ _ _ h => h) (Or.inl ⟨by rfl, ?_⟩) ?_ ?_
              rotate_left
              ·intro w'
               go_simp
               with_reducible rfl
              rotate_left
              ·simp only [Act.put, List.setIfInBounds_toArray, List.set_cons_zero, List.set_cons_succ, i64_w]
               rfl
              refine pure_ (i := 9) (N := some 90) (v := ?_) (a' := ?_) #[true, true, true, true, true, false, true, true, true, true, false, false, false, false, false, false, false, false, false, false, false, false, false, false, false, false, false, false] rfl rfl (any_of HT_.out (by kernel_rfl)) (fun _ _ _ h => h) (Or.inl ⟨by rfl, ?_⟩) ?_ ?_
              rotate_left
              ·intro w'
               go_simp
               with_reducible rfl
              rotate_left
              ·simp only [Act.put, List.setIfInBounds_toArray, List.set_cons_zero, List.set_cons_succ, i64_w]
               rfl
              refine pure_ (i := 11) (N := some 92) (v := ?_) (a' := ?_) #[true, true, true, true, true, false, true, true, true, true, false, true, false, false, false, false, false, false, false, false, false, false, false, false, false, false, false, false] rfl rfl (any_of HT_.out (by kernel_rfl)) (fun _ _ _ h => h) (Or.inl ⟨by rfl, ?_⟩) ?_ ?_
              rotate_left
              ·intro w'
               go_simp
               with_reducible rfl
              rotate_left
              ·simp only [Act.put, List.setIfInBounds_toArray, List.set_cons_zero, List.set_cons_succ, i64_w]
               rfl
              refine pure_ (i := 12) (N := some 93) (v := ?_) (a' := ?_) #[true, true, true, true, true, false, true, true, true, true, false, true, true, false, false, false, false, false, false, false, false, false, false, false, false, false, false, false] rfl rfl (any_of HT_.out (by kernel_rfl)) (fun _ _ _ h => h) (Or.inl ⟨by rfl, ?_⟩) ?_ ?_
              rotate_left
              ·intro w'
               go_simp
               with_reducible rfl
              rotate_left
              ·simp only [Act.put, List.setIfInBounds_toArray, List.set_cons_zero, List.set_cons_succ, i64_w]
               rfl
              refine pure_ (i := 13) (N := some 94) (v := ?_) (a' := ?_) #[true, true, true, true, true, false, true, true, true, true, false, true, true, true, false, false, false, false, false, false, false, false, false, false, false, false, false, false] rfl rfl (any_of HT_.out (by kernel_rfl)) (fun _ _ _ h => h) (Or.inl ⟨by rfl, ?_⟩) ?_ ?_
              rotate_left
              ·intro w'
               go_simp
               with_reducible rfl
              rotate_left
              ·simp only [Act.put, List.setIfInBounds_toArray, List.set_cons_zero, List.set_cons_succ, i64_w]
               rfl
              refine pure_ (i := 14) (N := some 95) (v := ?_) (a' := ?_) #[true, true, true, true, true, false, true, true, true, true, false, true, true, true, true, false, false, false, false, false, false, false, false, false, false, false, false, false] rfl rfl (any_of HT_.out (by kernel_rfl)) (fun _ _ _ h => h) (Or.inl ⟨by rfl, ?_⟩) ?_ ?_
              rotate_left
              ·intro w'
               go_simp
               with_reducible rfl
              rotate_left
              ·simp only [Act.put, List.setIfInBounds_toArray, List.set_cons_zero, List.set_cons_succ, i64_w]
               rfl
              refine pure_ (i := 18) (N := some 99) (v := ?_) (a' := ?_) #[true, true, true, true, true, false, true, true, true, true, false, true, true, true, true, false, false, false, true, false, false, false, false, false, false, false, false, false] rfl rfl (any_of HT_.out (by kernel_rfl)) (fun _ _ _ h => h) (Or.inl ⟨by rfl, ?_⟩) ?_ ?_
              rotate_left
              ·intro w'
               go_simp
               with_reducible rfl
              rotate_left
              ·simp only [Act.put, List.setIfInBounds_toArray, List.set_cons_zero, List.set_cons_succ, i64_w]
               rfl
              refine pure_ (i := 19) (N := some 100) (v := ?_) (a' := ?_) #[true, true, true, true, true, false, true, true, true, true, false, true, true, true, true, false, false, false, true, true, false, false, false, false, false, false, false, false] rfl rfl (any_of HT_.out (by kernel_rfl)) (fun _ _ _ h => h) (Or.inl ⟨by rfl, ?_⟩) ?_ ?_
              rotate_left
              ·intro w'
               go_simp
               with_reducible rfl
              rotate_left
              ·simp only [Act.put, List.setIfInBounds_toArray, List.set_cons_zero, List.set_cons_succ, i64_w]
               rfl
              refine take_ (i := 5) (N := some 86) (v := ?_) (a' := ?_) #[true, true, true, true, true, true, true, true, true, true, false, true, true, true, true, false, false, false, true, true, false, false, false, false, false, false, false, false] rfl rfl (take_ofW HT_.out HW_.out (by kernel_rfl)) (fun _ _ _ h => h) (Or.inl ⟨by rfl, ?_⟩) hHeld ?_ ?_
              rotate_left
              ·rintro w' ⟨s0, s1, s2, s3, s4, s5⟩
               go_simp
               with_reducible rfl
              rotate_left
              ·simp only [Act.put, List.setIfInBounds_toArray, List.set_cons_zero, List.set_cons_succ, i64_w]
               rfl
              refine take_ (i := 10) (N := some 91) (v := ?_) (a' := ?_) #[true, true, true, true, true, true, true, true, true, true, true, true, true, true, true, false, false, false, true, true, false, false, false, false, false, false, false, false] rfl rfl (take_ofW HT_.out HW_.out (by kernel_rfl)) (fun _ _ _ h => h) (Or.inl ⟨by rfl, ?_⟩) hHeld ?_ ?_
              rotate_left
              ·rintro w' ⟨s0, s1, s2, s3, s4, s5⟩
               go_simp
               with_reducible rfl
              rotate_left
              ·simp only [Act.put, List.setIfInBounds_toArray, List.set_cons_zero, List.set_cons_succ, i64_w]
               rfl
              refine take_ (i := 15) (N := some 96) (v := ?_) (a' := ?_) #[true, true, true, true, true, true, true, true, true, true, true, true, true, true, true, true, false, false, true, true, false, false, false, false, false, false, false, false] rfl rfl (take_ofW HT_.out HW_.out (by kernel_rfl)) (fun _ _ _ h => h) (Or.inl ⟨by rfl, ?_⟩) hHeld ?_ ?_
              rotate_left
              ·rintro w' ⟨s0, s1, s2, s3, s4, s5⟩
               go_simp
               with_reducible rfl
              rotate_left
              ·simp only [Act.put, List.setIfInBounds_toArray, List.set_cons_zero, List.set_cons_succ, i64_w]
               rfl
              refine pure_ (i := 16) (N := some 97) (v := ?_) (a' := ?_) #[true, true, true, true, true, true, true, true, true, true, true, true, true, true, true, true, true, false, true, true, false, false, false, false, false, false, false, false] rfl rfl (any_of HT_.out (by kernel_rfl)) (fun _ _ _ h => h) (Or.inl ⟨by rfl, ?_⟩) ?_ ?_
              rotate_left
              ·intro w'
               go_simp
               with_reducible rfl
              rotate_left
              ·simp only [Act.put, List.setIfInBounds_toArray, List.set_cons_zero, List.set_cons_succ, i64_w]
               rfl
              refine pure_ (i := 17) (N := some 98) (v := ?_) (a' := ?_) #[true, true, true, true, true, true, true, true, true, true, true, true, true, true, true, true, true, true, true, true, false, false, false, false, false, false, false, false] rfl rfl (any_of HT_.out (by kernel_rfl)) (fun _ _ _ h => h) (Or.inl ⟨by rfl, ?_⟩) ?_ ?_
              rotate_left
              ·intro w'
               go_simp
               with_reducible rfl
              rotate_left
              ·simp only [Act.put, List.setIfInBounds_toArray, List.set_cons_zero, List.set_cons_succ, i64_w]
               rfl
              refine one_ (i := 20) (N := some 101) #[true, true, true, true, true, true, true, true, true, true, true, true, true, true, true, true, true, true, true, true, true, false, false, false, false, false, false, false] rfl rfl (one_of HT_.out (by kernel_rfl)) (by decide) (fun K hK => ?_)
              refine goes_ Tryz.func32 (by kernel_rfl) rfl #[.slice A51 y284.length c51, .int .i64 t279, .int .i64 t280] (by rfl) rfl rfl (by (try simp only [List.map_toArray, List.map_cons, List.map_nil]); first | done | rfl | (simp only [List.length_drop, List.length_take]; rfl)) ?_
              with_reducible refine (r06_Get.calls k1 _ _ y284 t279 t280 t288 t289 t290 _ ?side1 ?side2 A42.out).mono ?_
              (case side1 => repeat (first | exact (by repeat (first | (with_reducible exact HR287.out) | (with_reducible refine Kd.C_alloc ?_ _) | (with_reducible refine Kd.C_drewN ?_ _) | (with_reducible refine Kd.C_drew ?_) | exact HR287.out)) | (with_reducible refine Kd.C_alloc ?_ _) | (with_reducible refine Kd.C_drewN ?_ _) | (with_reducible refine Kd.C_drew ?_)))
              (case side2 => exact HC287.out)
              rintro e w52 ⟨v291, rfl, ho0, hb⟩
              have HS0_ := (hb.cell (World.block_lt_of_cell? _ _ (hHeld.1))).trans (hHeld.1)
              have HS1_ := (hb.cell (World.block_lt_of_cell? _ _ (hHeld.2.1))).trans (hHeld.2.1)
              have HS2_ := (hb.cell (World.block_lt_of_cell? _ _ (hHeld.2.2.1))).trans (hHeld.2.2.1)
              have HS3_ := (hb.cell (World.block_lt_of_cell? _ _ (hHeld.2.2.2.1))).trans (hHeld.2.2.2.1)
              have HS4_ := (hb.cell (World.block_lt_of_cell? _ _ (hHeld.2.2.2.2.1))).trans (hHeld.2.2.2.2.1)
              have HS5_ := (hb.cell (World.block_lt_of_cell? _ _ (hHeld.2.2.2.2.2))).trans (hHeld.2.2.2.2.2)
              refine ⟨_, rfl, ?_⟩
              have n0_ := HO_6
              have n1_ := Ad.mk (Kd.R_below (by (with_reducible repeat (first | apply Kd.R_alloc | apply Kd.R_drewN | apply Kd.R_drew)); exact HO_10.out) hb)
              have n2_ := Ad.mk (Kd.R_below (by (with_reducible repeat (first | apply Kd.R_alloc | apply Kd.R_drewN | apply Kd.R_drew)); exact HO_14.out) hb)
              have n3_ := Ad.mk (Kd.R_below (by (with_reducible repeat (first | apply Kd.R_alloc | apply Kd.R_drewN | apply Kd.R_drew)); exact HO_15.out) hb)
              have n4_ := Ad.mk (Kd.R_elder' (by (with_reducible repeat (first | apply Kd.R_alloc | apply Kd.R_drewN | apply Kd.R_drew)); exact HO_270002.out) (Kd.R_base ho0) hb)
              have n5_ := Ad.mk (Kd.R_lower (Kd.R_new' (Kd.R_newM (M := fun k_ => (P0_ k_ ∨ w.heap.size ≤ k_)) ho0 (by first | exact HK.out.1 | exact (show Kept w _ (fun k_ => P0_ k_) from by repeat (first | (with_reducible first | exact HK.out | apply Kept.alloc | apply Kept.drewN | apply Kept.drew | refine Kept.setCell ?_ (.inr GW251.out) _ | refine Kept.setCell ?_ (.inr GW252.out) _ | refine Kept.setCell ?_ (.inr GW269.out) _) | exact HK.out)).1) (fun k_ h_ => .inr h_)) (Kd.R_lt (by (with_reducible repeat (first | apply Kd.R_alloc | apply Kd.R_drewN | apply Kd.R_drew)); exact HO_270002.out))) (below_size (by repeat (first | (with_reducible first | exact HB.out | apply bwA | apply bwN | apply bw1 | refine bwS ?_ GE251.out | refine bwS ?_ GE252.out | refine bwS ?_ GE269.out) | exact HB.out))))
              have n6_ := Ad.mk (blk_below (g := gb251) (o := .cells #[.int .i64 x252000_1, .int .i64 x252001_1, .slice none 0 0] 53 (0, 0)) (by (with_reducible repeat (first | refine bkN ?_ _ | refine bkD ?_ | refine bkA ?_ _)); exact BK251.out) hb)
              have n7_ := Ad.mk (blk_below (g := gb252) (o := .cells #[.int .i64 0, .int .i64 0, .slice none 0 0] 53 (0, 0)) (by (with_reducible repeat (first | refine bkN ?_ _ | refine bkD ?_ | refine bkA ?_ _)); exact BK252.out) hb)
              have n8_ := Ad.mk (blk_below (g := gb269) (o := .cells #[.int .i64 x270000_1, .int .i64 x270001_1, u270002] 53 (0, 0)) (by (with_reducible repeat (first | refine bkN ?_ _ | refine bkD ?_ | refine bkA ?_ _)); exact BK269.out) hb)
              have n9_ := Ad.mk (Kd.C_below (by repeat (first | (with_reducible exact HR287.out) | (with_reducible refine Kd.C_alloc ?_ _) | (with_reducible refine Kd.C_drewN ?_ _) | (with_reducible refine Kd.C_drew ?_) | exact HR287.out)) hb)
              have n10_ := Ad.mk (Kept.below (S := (fun k_ => P0_ k_)) (by repeat (first | (with_reducible first | exact HK.out | apply Kept.alloc | apply Kept.drewN | apply Kept.drew | refine Kept.setCell ?_ (.inr GW251.out) _ | refine Kept.setCell ?_ (.inr GW252.out) _ | refine Kept.setCell ?_ (.inr GW269.out) _) | exact HK.out)) hb)
              have n11_ := Ad.mk (below_step (by repeat (first | (with_reducible first | exact HB.out | apply bwA | apply bwN | apply bw1 | refine bwS ?_ GE251.out | refine bwS ?_ GE252.out | refine bwS ?_ GE269.out) | exact HB.out)) hb)
              clear HO_6
              clear HO_10
              clear HO_14
              clear HO_15
              clear HO_270002
              clear BK251
              clear BK252
              clear BK269
              clear HR287
              clear HK
              clear HB
              have HO_6 := n0_
              have HO_10 := n1_
              have HO_14 := n2_
              have HO_15 := n3_
              have HO_270002 := n4_
              have HO292 := n5_
              have BK251 := n6_
              have BK252 := n7_
              have BK269 := n8_
              have HR287 := n9_
              have HK := n10_
              have HB := n11_
              clear n0_ n1_ n2_ n3_ n4_ n5_ n6_ n7_ n8_ n9_ n10_ n11_
              (try clear hb)
              (try clear hb2)
              (try clear hk)
              (try clear hi)
              (try clear ho0)
              refine hK.out _ _ ⟨HS0_, HS1_, HS2_, HS3_, HS4_, HS5_⟩ (fun hHeld => ?_)
              clear hK K
              refine norm_ (a' := ?_) ?_ ?_
              rotate_left
              ·show Act.put _ (some 101) _ = _
               simp only [Act.put, List.setIfInBounds_toArray, List.set_cons_zero, List.set_cons_succ, i64_w]
               rfl
              refine pure_ (i := 21) (N := some 80) (v := ?_) (a' := ?_) #[true, true, true, true, true, true, true, true, true, true, true, true, true, true, true, true, true, true, true, true, true, true, false, false, false, false, false, false] rfl rfl (any_of HT_.out (by kernel_rfl)) (fun _ _ _ h => h) (Or.inl ⟨by rfl, ?_⟩) ?_ ?_
              rotate_left
              ·intro w'
               go_simp
               with_reducible rfl
              rotate_left
              ·simp only [Act.put, List.setIfInBounds_toArray, List.set_cons_zero, List.set_cons_succ, i64_w]
               rfl
              refine pure_ (i := 22) (N := some 102) (v := ?_) (a' := ?_) #[true, true, true, true, true, true, true, true, true, true, true, true, true, true, true, true, true, true, true, true, true, true, true, false, false, false, false, false] rfl rfl (any_of HT_.out (by kernel_rfl)) (fun _ _ _ h => h) (Or.inl ⟨by rfl, ?_⟩) ?_ ?_
              rotate_left
              ·intro w'
               go_simp
               with_reducible rfl
              rotate_left
              ·simp only [Act.put, List.setIfInBounds_toArray, List.set_cons_zero, List.set_cons_succ, i64_w]
               rfl
              refine pure_ (i := 23) (N := some 103) (v := ?_) (a' := ?_) #[true, true, true, true, true, true, true, true, true, true, true, true, true, true, true, true, true, true, true, true, true, true, true, true, false, false, false, false] rfl rfl (any_of HT_.out (by kernel_rfl)) (fun _ _ _ h => h) (Or.inl ⟨by rfl, ?_⟩) ?_ ?_
              rotate_left
              ·intro w'
               go_simp
               with_reducible rfl
              rotate_left
              ·simp only [Act.put, List.setIfInBounds_toArray, List.set_cons_zero, List.set_cons_succ, i64_w]
               rfl
              refine pure_ (i := 24) (N := some 104) (v := ?_) (a' := ?_) #[true, true, true, true, true, true, true, true, true, true, true, true, true, true, true, true, true, true, true, true, true, true, true, true, true, false, false, false] rfl rfl (any_of HT_.out (by kernel_rfl)) (fun _ _ _ h => h) (Or.inl ⟨by rfl, ?_⟩) ?_ ?_
              rotate_left
              ·intro w'
               go_simp
               with_reducible rfl
              rotate_left
              ·simp only [Act.put, List.setIfInBounds_toArray, List.set_cons_zero, List.set_cons_succ, i64_w]
               rfl
              refine pure_ (i := 25) (N := some 20) (v := ?_) (a' := ?_) #[true, true, true, true, true, true, true, true, true, true, true, true, true, true, true, true, true, true, true, true, true, true, true, true, true, true, false, false] rfl rfl (any_of HT_.out (by kernel_rfl)) (fun _ _ _ h => h) (Or.inl ⟨by rfl, ?_⟩) ?_ ?_
              rotate_left
              ·intro w'
               go_simp
               with_reducible rfl
              rotate_left
              ·simp only [Act.put, List.setIfInBounds_toArray, List.set_cons_zero, List.set_cons_succ, i64_w]
               rfl
              refine pure_ (i := 26) (N := some 21) (v := ?_) (a' := ?_) #[true, true, true, true, true, true, true, true, true, true, true, true, true, true, true, true, true, true, true, true, true, true, true, true, true, true, true, false] rfl rfl (any_of HT_.out (by kernel_rfl)) (fun _ _ _ h => h) (Or.inl ⟨by rfl, ?_⟩) ?_ ?_
              rotate_left
              ·intro w'
               go_simp
               with_reducible rfl
              rotate_left
              ·simp only [Act.put, List.setIfInBounds_toArray, List.set_cons_zero, List.set_cons_succ, i64_w]
               rfl
              refine pure_ (i := 27) (N := some 22) (v := ?_) (a' := ?_) #[true, true, true, true, true, true, true, true, true, true, true, true, true, true, true, true, true, true, true, true, true, true, true, true, true, true, true, true] rfl rfl (any_of HT_.out (by kernel_rfl)) (fun _ _ _ h => h) (Or.inl ⟨by rfl, ?_⟩) ?_ ?_
              rotate_left
              ·intro w'
               go_simp
               with_reducible rfl
              rotate_left
              ·simp only [Act.put, List.setIfInBounds_toArray, List.set_cons_zero, List.set_cons_succ, i64_w]
               rfl
              refine done_ (done_of HT_.out (by kernel_rfl)) ?_
              try go_wp2
              have n0_ := HO_6
              have n1_ := Ad.mk (Kd.R_drew HO_10.out)
              have n2_ := Ad.mk (Kd.R_drew HO_14.out)
              have n3_ := Ad.mk (Kd.R_drew HO_15.out)
              have n4_ := Ad.mk (Kd.R_drew HO_270002.out)
              have n5_ := Ad.mk (Kd.R_drew HO292.out)
              have n6_ := Ad.mk (bkD BK251.out)
              have n7_ := Ad.mk (bkD BK252.out)
              have n8_ := Ad.mk (bkD BK269.out)
              have n9_ := Ad.mk (Kd.C_drew HR287.out)
              have n10_ := Ad.mk (Kept.drew HK.out)
              have n11_ := Ad.mk (bw1 HB.out)
              clear HO_6
              clear HO_10
              clear HO_14
              clear HO_15
              clear HO_270002
              clear HO292
              clear BK251
              clear BK252
              clear BK269
              clear HR287
              clear HK
              clear HB
              have HO_6 := n0_
              have HO_10 := n1_
              have HO_14 := n2_
              have HO_15 := n3_
              have HO_270002 := n4_
              have HO292 := n5_
              have BK251 := n6_
              have BK252 := n7_
              have BK269 := n8_
              have HR287 := n9_
              have HK := n10_
              have HB := n11_
              clear n0_ n1_ n2_ n3_ n4_ n5_ n6_ n7_ n8_ n9_ n10_ n11_
              have p293 : 0 ≤ (x17_1 : Int) := of_decide_eq_true (by first | (with_reducible assumption) | assumption)
              have q293 : x17_1 < (t270.length : Int) := of_decide_eq_true (by first | (with_reducible assumption) | assumption)
              obtain ⟨ad293, e293, hx293_0, hx293_1, hx293_2, hx293_3⟩ := at_T23 (Kd.R_reads' HO_14.out).2.2 x17_1 p293 q293
              obtain rfl : ad278 = ad293 := (by injection e293)
              replace p293 := eq_true p293
              replace q293 := eq_true q293
              obtain ⟨Ao54, co54, eo54⟩ := Kd.R_slice HO_270002.out
              (first | subst eo54 | (injection eo54 with f1_ f2_ f3_; have f4_ := f1_.symm; have f5_ := f3_.symm; clear f1_ f2_ f3_; subst f4_; subst f5_))
              obtain ⟨Ao55, co55, eo55⟩ := Kd.R_slice HO292.out
              (first | subst eo55 | (injection eo55 with f1_ f2_ f3_; have f4_ := f1_.symm; have f5_ := f3_.symm; clear f1_ f2_ f3_; subst f4_; subst f5_))
              refine start_ (n := 11) (S := fun w' => w'.cell? ⟨gb269, 0, none⟩ = some (.int .i64 x270000_1) ∧ w'.cell? ⟨gb269, 1, none⟩ = some (.int .i64 x270001_1) ∧ w'.cell? ⟨gb269, 2, none⟩ = some (.slice Ao54 x270002_1.length co54) ∧ w'.cell? (ad278.add ((x17_1).toNat * 4)) = some (.int .i64 ((rd_T23 t270 x17_1).f0)) ∧ w'.cell? ⟨(ad278.add ((x17_1).toNat * 4)).block, (ad278.add ((x17_1).toNat * 4)).off + 1, none⟩ = some (.int .i64 ((rd_T23 t270 x17_1).f1)) ∧ w'.cell? ⟨(ad278.add ((x17_1).toNat * 4)).block, (ad278.add ((x17_1).toNat * 4)).off + 2, none⟩ = some (.int .i64 ((rd_T23 t270 x17_1).f2)) ∧ w'.cell? ⟨(ad278.add ((x17_1).toNat * 4)).block, (ad278.add ((x17_1).toNat * 4)).off + 3, none⟩ = some (.int .i64 ((rd_T23 t270 x17_1).f3))) (ds := [10]) #[false, false, false, false, false, false, false, false, false, false, false] (by kernel_rfl) rfl rfl ⟨(bkC BK269.out 0).trans rfl, (bkC BK269.out 1).trans rfl, (bkC BK269.out 2).trans rfl, hx293_0, hx293_1, hx293_2, hx293_3⟩ (fun hHeld => ?_); refine with_tabW r14_Load.tab21 r14_Load.bits21 (fun HT_ HW_ => ?_)
              generalize w52.drew = w53 at HO_10 HO_14 HO_15 HO_270002 HO292 BK251 BK252 BK269 HR287 HK HB hx293_0 hx293_1 hx293_2 hx293_3 hHeld ⊢
              refine pure_ (i := 1) (N := some 110) (v := ?_) (a' := ?_) #[false, true, false, false, false, false, false, false, false, false, false] rfl rfl (any_of HT_.out (by kernel_rfl)) (fun _ _ _ h => h) (Or.inl ⟨by rfl, ?_⟩) ?_ ?_
              rotate_left
              ·intro w'
               go_simp
               with_reducible rfl
              rotate_left
              ·simp only [Act.put, List.setIfInBounds_toArray, List.set_cons_zero, List.set_cons_succ, i64_w]
               rfl
              refine pure_ (i := 2) (N := some 111) (v := ?_) (a' := ?_) #[false, true, true, false, false, false, false, false, false, false, false] rfl rfl (any_of HT_.out (by kernel_rfl)) (fun _ _ _ h => h) (Or.inl ⟨by rfl, ?_⟩) ?_ ?_
              rotate_left
              ·intro w'
               go_simp
               with_reducible rfl
              rotate_left
              ·simp only [Act.put, List.setIfInBounds_toArray, List.set_cons_zero, List.set_cons_succ, i64_w]
               rfl
              refine pure_ (i := 3) (N := some 112) (v := ?_) (a' := ?_) #[false, true, true, true, false, false, false, false, false, false, false] rfl rfl (any_of HT_.out (by kernel_rfl)) (fun _ _ _ h => h) (Or.inl ⟨by rfl, ?_⟩) ?_ ?_
              rotate_left
              ·intro w'
               go_simp
               with_reducible rfl
              rotate_left
              ·simp only [Act.put, List.setIfInBounds_toArray, List.set_cons_zero, List.set_cons_succ, i64_w]
               rfl
              refine pure_ (i := 5) (N := some 114) (v := ?_) (a' := ?_) #[false, true, true, true, false, true, false, false, false, false, false] rfl rfl (any_of HT_.out (by kernel_rfl)) (fun _ _ _ h => h) (Or.inl ⟨by rfl, ?_⟩) ?_ ?_
              rotate_left
              ·intro w'
               go_simp
               with_reducible rfl
              rotate_left
              ·simp only [Act.put, List.setIfInBounds_toArray, List.set_cons_zero, List.set_cons_succ, i64_w]
               rfl
              refine take_ (i := 0) (N := some 109) (v := ?_) (a' := ?_) #[true, true, true, true, false, true, false, false, false, false, false] rfl rfl (take_ofW HT_.out HW_.out (by kernel_rfl)) (fun _ _ _ h => h) (Or.inl ⟨by rfl, ?_⟩) hHeld ?_ ?_
              rotate_left
              ·rintro w' ⟨s0, s1, s2, s3, s4, s5, s6⟩
               go_simp
               with_reducible rfl
              rotate_left
              ·simp only [Act.put, List.setIfInBounds_toArray, List.set_cons_zero, List.set_cons_succ, i64_w]
               rfl
              refine take_ (i := 4) (N := some 113) (v := ?_) (a' := ?_) #[true, true, true, true, true, true, false, false, false, false, false] rfl rfl (take_ofW HT_.out HW_.out (by kernel_rfl)) (fun _ _ _ h => h) (Or.inl ⟨by rfl, ?_⟩) hHeld ?_ ?_
              rotate_left
              ·rintro w' ⟨s0, s1, s2, s3, s4, s5, s6⟩
               go_simp
               with_reducible rfl
              rotate_left
              ·simp only [Act.put, List.setIfInBounds_toArray, List.set_cons_zero, List.set_cons_succ, i64_w]
               rfl
              refine one_ (i := 6) (N := some 115) #[true, true, true, true, true, true, true, false, false, false, false] rfl rfl (one_of HT_.out (by kernel_rfl)) (by decide) (fun K hK => ?_)
              refine goes_ Tryz.func33 (by kernel_rfl) rfl #[.agg #[.int .i64 x270000_1, .int .i64 x270001_1, .slice Ao54 x270002_1.length co54], .agg #[.int .i64 ((rd_T23 t270 x17_1).f0), .int .i64 ((rd_T23 t270 x17_1).f1), .int .i64 ((rd_T23 t270 x17_1).f2), .int .i64 ((rd_T23 t270 x17_1).f3)], .slice Ao55 t288.length co55] (by rfl) rfl rfl (by (try simp only [List.map_toArray, List.map_cons, List.map_nil]); first | done | rfl | (simp only [List.length_drop, List.length_take]; rfl)) ?_
              with_reducible refine (r09_Paste.calls k1 x270000_1 x270001_1 (fun k_ => some k_ = (.slice Ao54 x270002_1.length co54 : Value).ownBlock) (.slice Ao54 x270002_1.length co54) x270002_1 ((rd_T23 t270 x17_1).f0) ((rd_T23 t270 x17_1).f1) ((rd_T23 t270 x17_1).f2) ((rd_T23 t270 x17_1).f3) _ _ t288 t294 t295 t296 t299 w0 _ ?side1 ?side2 ?side3 ?side4 A44.out).mono ?_
              (case side1 => repeat (first | (with_reducible first | exact HB.out | apply bwA | apply bwN | apply bw1 | refine bwS ?_ GE251.out | refine bwS ?_ GE252.out | refine bwS ?_ GE269.out) | exact HB.out))
              (case side2 => exact Kd.R_tight rfl HO_270002.out)
              (case side3 => exact Kd.C_kept_own (HO292.out) (fun k_ hk_ hs_ => (hk_.2) hs_))
              (case side4 => exact (Kd.R_reads' HO292.out).2.1)
              rintro e w56 ⟨v297, rfl, ho0, hb, hkp⟩
              have HS3_ := cell_kept (hHeld.2.2.2.1) hkp (by first | (rw [add_block]; exact (fun hs_ => ((((Kd.R_apart' HO_14.out (Kd.R_typed HO_270002.out) (by decide))).1 _ rfl).2) hs_)) | (show ¬ _; simp only [add_block]; exact (fun hs_ => ((((Kd.R_apart' HO_14.out (Kd.R_typed HO_270002.out) (by decide))).1 _ rfl).2) hs_)) | exact (fun hs_ => ((((Kd.R_apart' HO_14.out (Kd.R_typed HO_270002.out) (by decide))).1 _ rfl).2) hs_))
              have HS4_ := cell_kept (hHeld.2.2.2.2.1) hkp (by first | (rw [add_block]; exact (fun hs_ => ((((Kd.R_apart' HO_14.out (Kd.R_typed HO_270002.out) (by decide))).1 _ rfl).2) hs_)) | (show ¬ _; simp only [add_block]; exact (fun hs_ => ((((Kd.R_apart' HO_14.out (Kd.R_typed HO_270002.out) (by decide))).1 _ rfl).2) hs_)) | exact (fun hs_ => ((((Kd.R_apart' HO_14.out (Kd.R_typed HO_270002.out) (by decide))).1 _ rfl).2) hs_))
              have HS5_ := cell_kept (hHeld.2.2.2.2.2.1) hkp (by first | (rw [add_block]; exact (fun hs_ => ((((Kd.R_apart' HO_14.out (Kd.R_typed HO_270002.out) (by decide))).1 _ rfl).2) hs_)) | (show ¬ _; simp only [add_block]; exact (fun hs_ => ((((Kd.R_apart' HO_14.out (Kd.R_typed HO_270002.out) (by decide))).1 _ rfl).2) hs_)) | exact (fun hs_ => ((((Kd.R_apart' HO_14.out (Kd.R_typed HO_270002.out) (by decide))).1 _ rfl).2) hs_))
              have HS6_ := cell_kept (hHeld.2.2.2.2.2.2) hkp (by first | (rw [add_block]; exact (fun hs_ => ((((Kd.R_apart' HO_14.out (Kd.R_typed HO_270002.out) (by decide))).1 _ rfl).2) hs_)) | (show ¬ _; simp only [add_block]; exact (fun hs_ => ((((Kd.R_apart' HO_14.out (Kd.R_typed HO_270002.out) (by decide))).1 _ rfl).2) hs_)) | exact (fun hs_ => ((((Kd.R_apart' HO_14.out (Kd.R_typed HO_270002.out) (by decide))).1 _ rfl).2) hs_))
              refine ⟨_, rfl, ?_⟩
              have n0_ := HO_6
              have n1_ := Ad.mk (Kd.R_mono (ok' := fun k_ => (P0_ k_ ∨ w.heap.size ≤ k_)) (Kd.R_keptB ((Kd.R_apart' HO_10.out (Kd.R_typed HO_270002.out) (by decide))) hkp (fun k_ hk_ hs_ => (hk_.2) hs_)) (fun k_ hk_ => hk_.1.1))
              have n2_ := Ad.mk (Kd.R_mono (ok' := fun k_ => (P0_ k_ ∨ w.heap.size ≤ k_)) (Kd.R_keptB ((Kd.R_apart' HO_14.out (Kd.R_typed HO_270002.out) (by decide))) hkp (fun k_ hk_ hs_ => (hk_.2) hs_)) (fun k_ hk_ => hk_.1.1))
              have n3_ := Ad.mk (Kd.R_mono (ok' := fun k_ => (P0_ k_ ∨ w.heap.size ≤ k_)) (Kd.R_keptB ((Kd.R_apart' HO_15.out (Kd.R_typed HO_270002.out) (by decide))) hkp (fun k_ hk_ hs_ => (hk_.2) hs_)) (fun k_ hk_ => hk_.1.1))
              have n4_ := Ad.mk (blk_kept (by (with_reducible repeat (first | refine bkN ?_ _ | refine bkD ?_ | refine bkA ?_ _)); exact BK251.out) hkp (fun hs_ => (fun e_ => (Kd.R_ne HO_270002.out BK251.out (by decide)) e_) hs_))
              have n5_ := Ad.mk (blk_kept (by (with_reducible repeat (first | refine bkN ?_ _ | refine bkD ?_ | refine bkA ?_ _)); exact BK252.out) hkp (fun hs_ => (fun e_ => (Kd.R_ne HO_270002.out BK252.out (by decide)) e_) hs_))
              have n6_ := Ad.mk (blk_kept (by (with_reducible repeat (first | refine bkN ?_ _ | refine bkD ?_ | refine bkA ?_ _)); exact BK269.out) hkp (fun hs_ => (fun e_ => (Kd.R_ne HO_270002.out BK269.out (by decide)) e_) hs_))
              have n7_ := Ad.mk (Kd.R_mono (ok' := fun k_ => (P0_ k_ ∨ w.heap.size ≤ k_) ∧ some k_ ≠ (v297 : Value).ownBlock) (Kd.R_keptB (HO292.out) hkp (fun k_ hk_ hs_ => (hk_.2) hs_)) (fun k_ hk_ => ⟨hk_.1.1.1, fun e_ => Or.elim (ho0.1 k_ e_.symm) (fun hs_ => hk_.2.1 hs_) (fun hn_ => Nat.not_le.2 hk_.2.2 hn_)⟩))
              have n8_ := Ad.mk (Kd.R_mono (ok' := fun k_ => (P0_ k_ ∨ w.heap.size ≤ k_) ∧ some k_ ≠ (.slice Ao55 t288.length co55 : Value).ownBlock) ho0 (fun k_ hk_ => ⟨Or.elim hk_ (fun hs_ => (HO_270002.out.1 k_ (hs_).symm).1) (fun hn_ => (.inr (Nat.le_trans (by first | exact HK.out.1 | exact (show Kept w _ (fun k_ => P0_ k_) from by repeat (first | (with_reducible first | exact HK.out | apply Kept.alloc | apply Kept.drewN | apply Kept.drew | refine Kept.setCell ?_ (.inr GW251.out) _ | refine Kept.setCell ?_ (.inr GW252.out) _ | refine Kept.setCell ?_ (.inr GW269.out) _) | exact HK.out)).1) hn_))), Or.elim hk_ (fun hs_ => fun e_ => (((HO292.out).1 k_ e_.symm).2) hs_) (fun hn_ => (Kd.fresh' (Kd.R_lt (by (with_reducible repeat (first | apply Kd.R_alloc | apply Kd.R_drewN | apply Kd.R_drew)); exact HO292.out)) k_ hn_))⟩))
              have n9_ := Ad.mk (Kept.then_ (S := (fun k_ => P0_ k_)) (by repeat (first | (with_reducible first | exact HK.out | apply Kept.alloc | apply Kept.drewN | apply Kept.drew | refine Kept.setCell ?_ (.inr GW251.out) _ | refine Kept.setCell ?_ (.inr GW252.out) _ | refine Kept.setCell ?_ (.inr GW269.out) _) | exact HK.out)) hkp (fun k_ hs_ => (fun e_ => (HO_270002.out.1 k_ e_.symm).1) hs_))
              have n10_ := Ad.mk (hb)
              clear HO_6
              clear HO_10
              clear HO_14
              clear HO_15
              clear BK251
              clear BK252
              clear BK269
              clear HO292
              clear HK
              clear HB
              clear HO_270002
              have HO_6 := n0_
              have HO_10 := n1_
              have HO_14 := n2_
              have HO_15 := n3_
              have BK251 := n4_
              have BK252 := n5_
              have BK269 := n6_
              have HO292 := n7_
              have HO298 := n8_
              have HK := n9_
              have HB := n10_
              clear n0_ n1_ n2_ n3_ n4_ n5_ n6_ n7_ n8_ n9_ n10_
              (try clear hb)
              (try clear hkp)
              (try clear ho0)
              obtain ⟨Ao59, co59, eo59⟩ := Kd.R_slice HO298.out
              (first | subst eo59 | (injection eo59 with f1_ f2_ f3_; have f4_ := f1_.symm; have f5_ := f3_.symm; clear f1_ f2_ f3_; subst f4_; subst f5_))
              refine hK.out _ _ ⟨(bkC BK269.out 0).trans rfl, (bkC BK269.out 1).trans rfl, (bkC BK269.out 2).trans rfl, HS3_, HS4_, HS5_, HS6_⟩ (fun hHeld => ?_)
              clear hK K
              refine norm_ (a' := ?_) ?_ ?_
              rotate_left
              ·show Act.put _ (some 115) _ = _
               simp only [Act.put, List.setIfInBounds_toArray, List.set_cons_zero, List.set_cons_succ, i64_w]
               rfl
              refine pure_ (i := 7) (N := some 108) (v := ?_) (a' := ?_) #[true, true, true, true, true, true, true, true, false, false, false] rfl rfl (any_of HT_.out (by kernel_rfl)) (fun _ _ _ h => h) (Or.inl ⟨by rfl, ?_⟩) ?_ ?_
              rotate_left
              ·intro w'
               go_simp
               with_reducible rfl
              rotate_left
              ·simp only [Act.put, List.setIfInBounds_toArray, List.set_cons_zero, List.set_cons_succ, i64_w]
               rfl
              refine pure_ (i := 8) (N := some 116) (v := ?_) (a' := ?_) #[true, true, true, true, true, true, true, true, true, false, false] rfl rfl (any_of HT_.out (by kernel_rfl)) (fun _ _ _ h => h) (Or.inl ⟨by rfl, ?_⟩) ?_ ?_
              rotate_left
              ·intro w'
               go_simp
               with_reducible rfl
              rotate_left
              ·simp only [Act.put, List.setIfInBounds_toArray, List.set_cons_zero, List.set_cons_succ, i64_w]
               rfl
              refine pure_ (i := 9) (N := some 117) (v := ?_) (a' := ?_) #[true, true, true, true, true, true, true, true, true, true, false] rfl rfl (any_of HT_.out (by kernel_rfl)) (fun _ _ _ h => h) (Or.inl ⟨by rfl, ?_⟩) ?_ ?_
              rotate_left
              ·intro w'
               go_simp
               with_reducible rfl
              rotate_left
              ·simp only [Act.put, List.setIfInBounds_toArray, List.set_cons_zero, List.set_cons_succ, i64_w]
               rfl
              refine last_ (i := 10) (N := none) #[true, true, true, true, true, true, true, true, true, true, true] rfl rfl (one_of HT_.out (by kernel_rfl)) (by decide) (fun K hK => ?_)
              have hs57 : w56.cell? ⟨gb269, 0, none⟩ = some (.int .i64 x270000_1) := (bkC BK269.out 0).trans rfl
              have hfs57 := bkF BK269.out 0
              have hns57_0 := NB251_269.out
              have hns57_1 := NB252_269.out
              have hms57_0 := NB269_251.out
              have hms57_1 := NB269_252.out
              have hs58 : w56.cell? ⟨gb269, 1, none⟩ = some (.int .i64 x270001_1) := (bkC BK269.out 1).trans rfl
              have hfs58 := bkF BK269.out 1
              have hns58_0 := NB251_269.out
              have hns58_1 := NB252_269.out
              have hms58_0 := NB269_251.out
              have hms58_1 := NB269_252.out
              have hs60 : w56.cell? ⟨gb269, 2, none⟩ = some (.slice Ao54 x270002_1.length co54) := (bkC BK269.out 2).trans rfl
              have hfs60 := bkF BK269.out 2
              have hns60_0 := NB251_269.out
              have hns60_1 := NB252_269.out
              have hms60_0 := NB269_251.out
              have hms60_1 := NB269_252.out
              refine skip_ (w1 := ?_) (by rfl) rfl ?_ ?_
              rotate_left
              ·go_simp
               rfl
              refine hK.out _ _ ?_
              clear hK K
              refine done_ (done_of HT_.out (by kernel_rfl)) ?_
              try go_wp2_with (first | ((with_reducible refine gate_builtin (b := .append) (xs := #[.tmp 118, .tmp 120]) rfl ?_); at_builtin; refine Kd.R_append (Kd.int .i64) (w0 := w0) w0.heap.size rfl (.tmp 118) (.tmp 120) 54 3 (.int .i64 0) 8 rfl Tryz.underlying54 info3 rfl (by decide) (by omega) u15 x15_1 t289 [.int .i64 t289] (fun k_ => (P0_ k_ ∨ w.heap.size ≤ k_)) (fun _ => False) rfl (by first | (go_simp; done) | (go_simp; rfl)) ?aP (fun _ hk => hk.elim) ?aF ?aO ?aB ?aS ?aL ?_; (case aP => exact rfl); (case aB => exact (by repeat (first | (with_reducible first | exact HB.out | apply bwA | apply bwN | apply bw1 | refine bwS ?_ GE251.out | refine bwS ?_ GE252.out | refine bwS ?_ GE269.out) | exact HB.out))); (case aF => exact (fun k_ hk => (.inr (Nat.le_trans (show Kept w _ (fun k_ => P0_ k_) from by repeat (first | (with_reducible first | exact HK.out | apply Kept.alloc | apply Kept.drewN | apply Kept.drew | refine Kept.setCell ?_ (.inr GW251.out) _ | refine Kept.setCell ?_ (.inr GW252.out) _ | refine Kept.setCell ?_ (.inr GW269.out) _) | exact HK.out)).1 hk)))); (case aO => exact (by (with_reducible repeat (first | apply Kd.R_alloc | apply Kd.R_drewN | apply Kd.R_drew)); exact Kd.R_mono (Kd.R_far (p := ⟨gb269, 2, none⟩) (Kd.R_far (p := ⟨gb269, 1, none⟩) (Kd.R_far (p := ⟨gb269, 0, none⟩) (Kd.R_types HO_15.out BK269.out (by decide)) (fun _ hk => hk.2) (.int .i64 t294)) (fun _ hk => hk.2) (.int .i64 t295)) (fun _ hk => hk.2) (.slice Ao59 t296.length co59)) (fun _ hk => hk.1))); (case aS => exact (below_size (by repeat (first | (with_reducible first | exact HB.out | apply bwA | apply bwN | apply bw1 | refine bwS ?_ GE251.out | refine bwS ?_ GE252.out | refine bwS ?_ GE269.out) | exact HB.out)))); (case aL => have := LMc45.out; omega); intro v301 w61 ho hb hg hat; rw [← Ny300.out] at ho; have n0_ := HO_6; have n1_ := Ad.mk (Kd.R_over' (by (with_reducible repeat (first | apply Kd.R_alloc | apply Kd.R_drewN | apply Kd.R_drew)); exact (Kd.R_mono (Kd.R_far (p := ⟨gb269, 2, none⟩) (Kd.R_far (p := ⟨gb269, 1, none⟩) (Kd.R_far (p := ⟨gb269, 0, none⟩) (Kd.R_types HO_10.out BK269.out (by decide)) (fun _ hk => hk.2) (.int .i64 t294)) (fun _ hk => hk.2) (.int .i64 t295)) (fun _ hk => hk.2) (.slice Ao59 t296.length co59)) (fun _ h_ => h_.1))) (Kd.R_typed (by (with_reducible repeat (first | apply Kd.R_alloc | apply Kd.R_drewN | apply Kd.R_drew)); exact (Kd.R_mono (Kd.R_far (p := ⟨gb269, 2, none⟩) (Kd.R_far (p := ⟨gb269, 1, none⟩) (Kd.R_far (p := ⟨gb269, 0, none⟩) (Kd.R_types HO_15.out BK269.out (by decide)) (fun _ hk => hk.2) (.int .i64 t294)) (fun _ hk => hk.2) (.int .i64 t295)) (fun _ hk => hk.2) (.slice Ao59 t296.length co59)) (fun _ h_ => h_.1)))) (by decide) hg); have n2_ := Ad.mk (Kd.R_over' (by (with_reducible repeat (first | apply Kd.R_alloc | apply Kd.R_drewN | apply Kd.R_drew)); exact (Kd.R_mono (Kd.R_far (p := ⟨gb269, 2, none⟩) (Kd.R_far (p := ⟨gb269, 1, none⟩) (Kd.R_far (p := ⟨gb269, 0, none⟩) (Kd.R_types HO_14.out BK269.out (by decide)) (fun _ hk => hk.2) (.int .i64 t294)) (fun _ hk => hk.2) (.int .i64 t295)) (fun _ hk => hk.2) (.slice Ao59 t296.length co59)) (fun _ h_ => h_.1))) (Kd.R_typed (by (with_reducible repeat (first | apply Kd.R_alloc | apply Kd.R_drewN | apply Kd.R_drew)); exact (Kd.R_mono (Kd.R_far (p := ⟨gb269, 2, none⟩) (Kd.R_far (p := ⟨gb269, 1, none⟩) (Kd.R_far (p := ⟨gb269, 0, none⟩) (Kd.R_types HO_15.out BK269.out (by decide)) (fun _ hk => hk.2) (.int .i64 t294)) (fun _ hk => hk.2) (.int .i64 t295)) (fun _ hk => hk.2) (.slice Ao59 t296.length co59)) (fun _ h_ => h_.1)))) (by decide) hg); have n3_ := Ad.mk (blk_grown (g := gb251) (o := .cells #[.int .i64 x252000_1, .int .i64 x252001_1, .slice none 0 0] 53 (0, 0)) (by (with_reducible repeat (first | refine bkN ?_ _ | refine bkD ?_ | refine bkA ?_ _)); refine blk_far ?_ NB251_269.out _; (with_reducible repeat (first | refine bkN ?_ _ | refine bkD ?_ | refine bkA ?_ _)); refine blk_far ?_ NB251_269.out _; (with_reducible repeat (first | refine bkN ?_ _ | refine bkD ?_ | refine bkA ?_ _)); refine blk_far ?_ NB251_269.out _; (with_reducible repeat (first | refine bkN ?_ _ | refine bkD ?_ | refine bkA ?_ _)); exact BK251.out) hg (Kd.R_ne HO_15.out BK251.out (by decide))); have n4_ := Ad.mk (blk_grown (g := gb252) (o := .cells #[.int .i64 0, .int .i64 0, .slice none 0 0] 53 (0, 0)) (by (with_reducible repeat (first | refine bkN ?_ _ | refine bkD ?_ | refine bkA ?_ _)); refine blk_far ?_ NB252_269.out _; (with_reducible repeat (first | refine bkN ?_ _ | refine bkD ?_ | refine bkA ?_ _)); refine blk_far ?_ NB252_269.out _; (with_reducible repeat (first | refine bkN ?_ _ | refine bkD ?_ | refine bkA ?_ _)); refine blk_far ?_ NB252_269.out _; (with_reducible repeat (first | refine bkN ?_ _ | refine bkD ?_ | refine bkA ?_ _)); exact BK252.out) hg (Kd.R_ne HO_15.out BK252.out (by decide))); have n5_ := Ad.mk (blk_grown (g := gb269) (o := .cells #[.int .i64 t294, .int .i64 t295, .slice Ao59 t296.length co59] 53 (0, 0)) (by (with_reducible repeat (first | refine bkN ?_ _ | refine bkD ?_ | refine bkA ?_ _)); refine blk_put (cs := #[.int .i64 t294, .int .i64 t295, .slice Ao54 x270002_1.length co54]) ?_ 2 _ rfl; (with_reducible repeat (first | refine bkN ?_ _ | refine bkD ?_ | refine bkA ?_ _)); refine blk_put (cs := #[.int .i64 t294, .int .i64 x270001_1, .slice Ao54 x270002_1.length co54]) ?_ 1 _ rfl; (with_reducible repeat (first | refine bkN ?_ _ | refine bkD ?_ | refine bkA ?_ _)); refine blk_put (cs := #[.int .i64 x270000_1, .int .i64 x270001_1, .slice Ao54 x270002_1.length co54]) ?_ 0 _ rfl; (with_reducible repeat (first | refine bkN ?_ _ | refine bkD ?_ | refine bkA ?_ _)); exact BK269.out) hg (Kd.R_ne HO_15.out BK269.out (by decide))); have n6_ := Ad.mk (Kd.R_over' (by (with_reducible repeat (first | apply Kd.R_alloc | apply Kd.R_drewN | apply Kd.R_drew)); exact (Kd.R_mono (Kd.R_far (p := ⟨gb269, 2, none⟩) (Kd.R_far (p := ⟨gb269, 1, none⟩) (Kd.R_far (p := ⟨gb269, 0, none⟩) (Kd.R_types HO292.out BK269.out (by decide)) (fun _ hk => hk.2) (.int .i64 t294)) (fun _ hk => hk.2) (.int .i64 t295)) (fun _ hk => hk.2) (.slice Ao59 t296.length co59)) (fun _ h_ => h_.1))) (Kd.R_typed (by (with_reducible repeat (first | apply Kd.R_alloc | apply Kd.R_drewN | apply Kd.R_drew)); exact (Kd.R_mono (Kd.R_far (p := ⟨gb269, 2, none⟩) (Kd.R_far (p := ⟨gb269, 1, none⟩) (Kd.R_far (p := ⟨gb269, 0, none⟩) (Kd.R_types HO_15.out BK269.out (by decide)) (fun _ hk => hk.2) (.int .i64 t294)) (fun _ hk => hk.2) (.int .i64 t295)) (fun _ hk => hk.2) (.slice Ao59 t296.length co59)) (fun _ h_ => h_.1)))) (by decide) hg); have n7_ := Ad.mk (Kd.R_over' (by (with_reducible repeat (first | apply Kd.R_alloc | apply Kd.R_drewN | apply Kd.R_drew)); exact (Kd.R_mono (Kd.R_far (p := ⟨gb269, 2, none⟩) (Kd.R_far (p := ⟨gb269, 1, none⟩) (Kd.R_far (p := ⟨gb269, 0, none⟩) (Kd.R_types HO298.out BK269.out (by decide)) (fun _ hk => hk.2) (.int .i64 t294)) (fun _ hk => hk.2) (.int .i64 t295)) (fun _ hk => hk.2) (.slice Ao59 t296.length co59)) (fun _ h_ => h_.1))) (Kd.R_typed (by (with_reducible repeat (first | apply Kd.R_alloc | apply Kd.R_drewN | apply Kd.R_drew)); exact (Kd.R_mono (Kd.R_far (p := ⟨gb269, 2, none⟩) (Kd.R_far (p := ⟨gb269, 1, none⟩) (Kd.R_far (p := ⟨gb269, 0, none⟩) (Kd.R_types HO_15.out BK269.out (by decide)) (fun _ hk => hk.2) (.int .i64 t294)) (fun _ hk => hk.2) (.int .i64 t295)) (fun _ hk => hk.2) (.slice Ao59 t296.length co59)) (fun _ h_ => h_.1)))) (by decide) hg); have n8_ := Ad.mk (hb); have n9_ := Ad.mk (Kept.of_grown (S := (fun k_ => P0_ k_)) hg (by repeat (first | (with_reducible first | exact HK.out | apply Kept.alloc | apply Kept.drewN | apply Kept.drew | refine Kept.setCell ?_ (.inr GW251.out) _ | refine Kept.setCell ?_ (.inr GW252.out) _ | refine Kept.setCell ?_ (.inr GW269.out) _) | exact HK.out)) (fun k_ e_ => (HO_15.out.1 k_ e_))); have n10_ := Ad.mk (ho); clear HO_6; clear HO_10; clear HO_14; clear BK251; clear BK252; clear BK269; clear HO292; clear HO298; clear HB; clear HK; clear HO_15; have HO_6 := n0_; have HO_10 := n1_; have HO_14 := n2_; have BK251 := n3_; have BK252 := n4_; have BK269 := n5_; have HO292 := n6_; have HO298 := n7_; have HB := n8_; have HK := n9_; have HO302 := n10_; clear n0_ n1_ n2_ n3_ n4_ n5_ n6_ n7_ n8_ n9_ n10_; clear ho hb hg hat))
              have n0_ := HO_6
              have n1_ := Ad.mk (Kd.R_drew HO_10.out)
              have n2_ := Ad.mk (Kd.R_drew HO_14.out)
              have n3_ := Ad.mk (Kd.R_drew HO292.out)
              have n4_ := Ad.mk (Kd.R_drew HO298.out)
              have n5_ := Ad.mk (Kd.R_drew HO302.out)
              have n6_ := Ad.mk (bkD BK251.out)
              have n7_ := Ad.mk (bkD BK252.out)
              have n8_ := Ad.mk (bkD BK269.out)
              have n9_ := Ad.mk (Kept.drew HK.out)
              have n10_ := Ad.mk (bw1 HB.out)
              clear HO_6
              clear HO_10
              clear HO_14
              clear HO292
              clear HO298
              clear HO302
              clear BK251
              clear BK252
              clear BK269
              clear HK
              clear HB
              have HO_6 := n0_
              have HO_10 := n1_
              have HO_14 := n2_
              have HO292 := n3_
              have HO298 := n4_
              have HO302 := n5_
              have BK251 := n6_
              have BK252 := n7_
              have BK269 := n8_
              have HK := n9_
              have HB := n10_
              clear n0_ n1_ n2_ n3_ n4_ n5_ n6_ n7_ n8_ n9_ n10_
              have p303 : 0 ≤ (x17_1 : Int) := of_decide_eq_true (by first | (with_reducible assumption) | assumption)
              have q303 : x17_1 < (t259.length : Int) := of_decide_eq_true (by first | (with_reducible assumption) | assumption)
              obtain ⟨ad303, e303, hx303_0, hx303_1⟩ := at_T95 (Kd.R_reads' HO_10.out).2.2 x17_1 p303 q303
              obtain rfl : ad276 = ad303 := (by injection e303)
              replace p303 := eq_true p303
              replace q303 := eq_true q303
              have p304 : 0 ≤ (x17_1 : Int) := of_decide_eq_true (by first | (with_reducible assumption) | assumption)
              have q304 : x17_1 < (t259.length : Int) := of_decide_eq_true (by first | (with_reducible assumption) | assumption)
              obtain ⟨ad304, e304, hx304_0, hx304_1⟩ := at_T95 (Kd.R_reads' HO_10.out).2.2 x17_1 p304 q304
              obtain rfl : ad276 = ad304 := (by injection e304)
              replace p304 := eq_true p304
              replace q304 := eq_true q304
              refine start_ (n := 12) (S := fun w' => w'.cell? (ad276.add ((x17_1).toNat * 2)) = some (.int .i64 ((rd_T95 t259 x17_1).f0)) ∧ w'.cell? ⟨(ad276.add ((x17_1).toNat * 2)).block, (ad276.add ((x17_1).toNat * 2)).off + 1, none⟩ = some (.int .i64 ((rd_T95 t259 x17_1).f1)) ∧ w'.cell? (ad276.add ((x17_1).toNat * 2)) = some (.int .i64 ((rd_T95 t259 x17_1).f0)) ∧ w'.cell? ⟨(ad276.add ((x17_1).toNat * 2)).block, (ad276.add ((x17_1).toNat * 2)).off + 1, none⟩ = some (.int .i64 ((rd_T95 t259 x17_1).f1))) (ds := []) #[false, false, false, false, false, false, false, false, false, false, false, false] (by kernel_rfl) rfl rfl ⟨hx303_0, hx303_1, hx304_0, hx304_1⟩ (fun hHeld => ?_); refine with_tabW r14_Load.tab23 r14_Load.bits23 (fun HT_ HW_ => ?_)
              generalize w61.drew = w62 at HO_10 HO_14 HO292 HO298 HO302 BK251 BK252 BK269 HK HB hx303_0 hx303_1 hx304_0 hx304_1 hHeld ⊢
              refine pure_ (i := 0) (N := some 122) (v := ?_) (a' := ?_) #[true, false, false, false, false, false, false, false, false, false, false, false] rfl rfl (any_of HT_.out (by kernel_rfl)) (fun _ _ _ h => h) (Or.inl ⟨by rfl, ?_⟩) ?_ ?_
              rotate_left
              ·intro w'
               go_simp
               with_reducible rfl
              rotate_left
              ·simp only [Act.put, List.setIfInBounds_toArray, List.set_cons_zero, List.set_cons_succ, i64_w]
               rfl
              refine pure_ (i := 1) (N := some 123) (v := ?_) (a' := ?_) #[true, true, false, false, false, false, false, false, false, false, false, false] rfl rfl (any_of HT_.out (by kernel_rfl)) (fun _ _ _ h => h) (Or.inl ⟨by rfl, ?_⟩) ?_ ?_
              rotate_left
              ·intro w'
               go_simp
               with_reducible rfl
              rotate_left
              ·simp only [Act.put, List.setIfInBounds_toArray, List.set_cons_zero, List.set_cons_succ, i64_w]
               rfl
              refine pure_ (i := 2) (N := some 124) (v := ?_) (a' := ?_) #[true, true, true, false, false, false, false, false, false, false, false, false] rfl rfl (any_of HT_.out (by kernel_rfl)) (fun _ _ _ h => h) (Or.inl ⟨by rfl, ?_⟩) ?_ ?_
              rotate_left
              ·intro w'
               go_simp
               with_reducible rfl
              rotate_left
              ·simp only [Act.put, List.setIfInBounds_toArray, List.set_cons_zero, List.set_cons_succ, i64_w]
               rfl
              refine pure_ (i := 3) (N := some 125) (v := ?_) (a' := ?_) #[true, true, true, true, false, false, false, false, false, false, false, false] rfl rfl (any_of HT_.out (by kernel_rfl)) (fun _ _ _ h => h) (Or.inl ⟨by rfl, ?_⟩) ?_ ?_
              rotate_left
              ·intro w'
               go_simp
               with_reducible rfl
              rotate_left
              ·simp only [Act.put, List.setIfInBounds_toArray, List.set_cons_zero, List.set_cons_succ, i64_w]
               rfl
              refine pure_ (i := 5) (N := some 127) (v := ?_) (a' := ?_) #[true, true, true, true, false, true, false, false, false, false, false, false] rfl rfl (any_of HT_.out (by kernel_rfl)) (fun _ _ _ h => h) (Or.inl ⟨by rfl, ?_⟩) ?_ ?_
              rotate_left
              ·intro w'
               go_simp
               with_reducible rfl
              rotate_left
              ·simp only [Act.put, List.setIfInBounds_toArray, List.set_cons_zero, List.set_cons_succ, i64_w]
               rfl
              refine pure_ (i := 6) (N := some 128) (v := ?_) (a' := ?_) #[true, true, true, true, false, true, true, false, false, false, false, false] rfl rfl (any_of HT_.out (by kernel_rfl)) (fun _ _ _ h => h) (Or.inl ⟨by rfl, ?_⟩) ?_ ?_
              rotate_left
              ·intro w'
               go_simp
               with_reducible rfl
              rotate_left
              ·simp only [Act.put, List.setIfInBounds_toArray, List.set_cons_zero, List.set_cons_succ, i64_w]
               rfl
              refine pure_ (i := 7) (N := some 129) (v := ?_) (a' := ?_) #[true, true, true, true, false, true, true, true, false, false, false, false] rfl rfl (any_of HT_.out (by kernel_rfl)) (fun _ _ _ h => h) (Or.inl ⟨by rfl, ?_⟩) ?_ ?_
              rotate_left
              ·intro w'
               go_simp
               with_reducible rfl
              rotate_left
              ·simp only [Act.put, List.setIfInBounds_toArray, List.set_cons_zero, List.set_cons_succ, i64_w]
               rfl
              refine pure_ (i := 8) (N := some 130) (v := ?_) (a' := ?_) #[true, true, true, true, false, true, true, true, true, false, false, false] rfl rfl (any_of HT_.out (by kernel_rfl)) (fun _ _ _ h => h) (Or.inl ⟨by rfl, ?_⟩) ?_ ?_
              rotate_left
              ·intro w'
               go_simp
               with_reducible rfl
              rotate_left
              ·simp only [Act.put, List.setIfInBounds_toArray, List.set_cons_zero, List.set_cons_succ, i64_w]
               rfl
              refine take_ (i := 4) (N := some 126) (v := ?_) (a' := ?_) #[true, true, true, true, true, true, true, true, true, false, false, false] rfl rfl (take_ofW HT_.out HW_.out (by kernel_rfl)) (fun _ _ _ h => h) (Or.inl ⟨by rfl, ?_⟩) hHeld ?_ ?_
              rotate_left
              ·rintro w' ⟨s0, s1, s2, s3⟩
               go_simp
               with_reducible rfl
              rotate_left
              ·simp only [Act.put, List.setIfInBounds_toArray, List.set_cons_zero, List.set_cons_succ, i64_w]
               rfl
              refine take_ (i := 9) (N := some 131) (v := ?_) (a' := ?_) #[true, true, true, true, true, true, true, true, true, true, false, false] rfl rfl (take_ofW HT_.out HW_.out (by kernel_rfl)) (fun _ _ _ h => h) (Or.inl ⟨by rfl, ?_⟩) hHeld ?_ ?_
              rotate_left
              ·rintro w' ⟨s0, s1, s2, s3⟩
               go_simp
               with_reducible rfl
              rotate_left
              ·simp only [Act.put, List.setIfInBounds_toArray, List.set_cons_zero, List.set_cons_succ, i64_w]
               rfl
              refine pure_ (i := 10) (N := some 132) (v := ?_) (a' := ?_) #[true, true, true, true, true, true, true, true, true, true, true, false] rfl rfl (any_of HT_.out (by kernel_rfl)) (fun _ _ _ h => h) (Or.inl ⟨by rfl, ?_⟩) ?_ ?_
              rotate_left
              ·intro w'
               go_simp
               with_reducible rfl
              rotate_left
              ·simp only [Act.put, List.setIfInBounds_toArray, List.set_cons_zero, List.set_cons_succ, i64_w]
               rfl
              refine pure_ (i := 11) (N := some 16) (v := ?_) (a' := ?_) #[true, true, true, true, true, true, true, true, true, true, true, true] rfl rfl (any_of HT_.out (by kernel_rfl)) (fun _ _ _ h => h) (Or.inl ⟨by rfl, ?_⟩) ?_ ?_
              rotate_left
              ·intro w'
               go_simp
               with_reducible rfl
              rotate_left
              ·simp only [Act.put, List.setIfInBounds_toArray, List.set_cons_zero, List.set_cons_succ, i64_w]
               rfl
              refine done_ (done_of HT_.out (by kernel_rfl)) ?_
              try go_wp2
              go_roundg k1
              case measure => have := HK1.out; omega
              case rel => exact ⟨(y300), (wrap64 (((rd_T95 t259 x17_1).f0) + ((rd_T95 t259 x17_1).f1))), (wrap64 (x17_1 + 1)), (x252000_1), (x252001_1), (t294), (t295), (t296), (.slice Ao59 t296.length co59), (by first | rfl | (simp; done) | (simp [*]; done)), (by first | rfl | (simp; done) | (simp [*]; done)), H', ⟨by have := HK1.out; omega⟩, HO_6, ⟨by (with_reducible repeat (first | apply Kd.R_alloc | apply Kd.R_drewN | apply Kd.R_drew)); exact HO_10.out⟩, ⟨by (with_reducible repeat (first | apply Kd.R_alloc | apply Kd.R_drewN | apply Kd.R_drew)); exact HO_14.out⟩, ⟨by (with_reducible repeat (first | apply Kd.R_alloc | apply Kd.R_drewN | apply Kd.R_drew)); exact HO302.out⟩, ⟨by (with_reducible repeat (first | apply Kd.R_alloc | apply Kd.R_drewN | apply Kd.R_drew)); exact Kd.R_mono HO298.out (fun _ hk => hk.1)⟩, ⟨by (with_reducible repeat (first | refine bkN ?_ _ | refine bkD ?_ | refine bkA ?_ _)); exact BK251.out⟩, ⟨by (with_reducible repeat (first | refine bkN ?_ _ | refine bkD ?_ | refine bkA ?_ _)); exact BK252.out⟩, ⟨by (with_reducible repeat (first | refine bkN ?_ _ | refine bkD ?_ | refine bkA ?_ _)); exact BK269.out⟩, ⟨by repeat (first | (with_reducible first | exact HK.out | apply Kept.alloc | apply Kept.drewN | apply Kept.drew | refine Kept.setCell ?_ (.inr GW251.out) _ | refine Kept.setCell ?_ (.inr GW252.out) _ | refine Kept.setCell ?_ (.inr GW269.out) _) | exact HK.out)⟩, ⟨by repeat (first | (with_reducible first | exact HB.out | apply bwA | apply bwN | apply bw1 | refine bwS ?_ GE251.out | refine bwS ?_ GE252.out | refine bwS ?_ GE269.out) | exact HB.out)⟩⟩
             ·rw [if_neg c45] at H
              exact absurd H (by simp)
            ·rw [if_neg c43] at H
             have c43b0 : (t290 == 0) = false := beq_eq_false_iff_ne.mpr c43
             have c43b1 : (t290 != 0) = true := bne_iff_ne.mpr c43
             simp only [Option.some.injEq, Prod.mk.injEq] at H
             obtain ⟨rfl, rfl, rfl, rfl, rfl⟩ := H
             obtain ⟨Ao63, co63, eo63⟩ := Kd.R_slice HO_14.out
             subst eo63
             try go_wp2
             have n0_ := HO_6
             have n1_ := Ad.mk (Kd.R_drew HO_10.out)
             have n2_ := Ad.mk (Kd.R_drew HO_14.out)
             have n3_ := Ad.mk (Kd.R_drew HO_15.out)
             have n4_ := Ad.mk (Kd.R_drew HO_270002.out)
             have n5_ := Ad.mk (bkD BK251.out)
             have n6_ := Ad.mk (bkD BK252.out)
             have n7_ := Ad.mk (bkD BK269.out)
             have n8_ := Ad.mk (Kept.drew HK.out)
             have n9_ := Ad.mk (bw1 HB.out)
             clear HO_6
             clear HO_10
             clear HO_14
             clear HO_15
             clear HO_270002
             clear BK251
             clear BK252
             clear BK269
             clear HK
             clear HB
             have HO_6 := n0_
             have HO_10 := n1_
             have HO_14 := n2_
             have HO_15 := n3_
             have HO_270002 := n4_
             have BK251 := n5_
             have BK252 := n6_
             have BK269 := n7_
             have HK := n8_
             have HB := n9_
             clear n0_ n1_ n2_ n3_ n4_ n5_ n6_ n7_ n8_ n9_
             obtain ⟨Ao65, co65, eo65⟩ := Kd.R_slice HO_10.out
             (first | subst eo65 | (injection eo65 with f1_ f2_ f3_; have f4_ := f1_.symm; have f5_ := f3_.symm; clear f1_ f2_ f3_; subst f4_; subst f5_))
             have p276 : 0 ≤ (x17_1 : Int) := of_decide_eq_true (by first | (with_reducible assumption) | assumption)
             have q276 : x17_1 < (t259.length : Int) := of_decide_eq_true (by first | (with_reducible assumption) | assumption)
             obtain ⟨ad276, e276, hx276_0, hx276_1⟩ := at_T95 (Kd.R_reads' HO_10.out).2.2 x17_1 p276 q276
             cases e276
             replace p276 := eq_true p276
             replace q276 := eq_true q276
             have p277 : 0 ≤ (x17_1 : Int) := of_decide_eq_true (by first | (with_reducible assumption) | assumption)
             have q277 : x17_1 < (t259.length : Int) := of_decide_eq_true (by first | (with_reducible assumption) | assumption)
             obtain ⟨ad277, e277, hx277_0, hx277_1⟩ := at_T95 (Kd.R_reads' HO_10.out).2.2 x17_1 p277 q277
             obtain rfl : ad276 = ad277 := (by injection e277)
             replace p277 := eq_true p277
             replace q277 := eq_true q277
             refine start_ (n := 14) (S := fun w' => w'.cell? (ad276.add ((x17_1).toNat * 2)) = some (.int .i64 ((rd_T95 t259 x17_1).f0)) ∧ w'.cell? ⟨(ad276.add ((x17_1).toNat * 2)).block, (ad276.add ((x17_1).toNat * 2)).off + 1, none⟩ = some (.int .i64 ((rd_T95 t259 x17_1).f1)) ∧ w'.cell? (ad276.add ((x17_1).toNat * 2)) = some (.int .i64 ((rd_T95 t259 x17_1).f0)) ∧ w'.cell? ⟨(ad276.add ((x17_1).toNat * 2)).block, (ad276.add ((x17_1).toNat * 2)).off + 1, none⟩ = some (.int .i64 ((rd_T95 t259 x17_1).f1))) (ds := []) #[false, false, false, false, false, false, false, false, false, false, false, false, false, false] (by kernel_rfl) rfl rfl ⟨hx276_0, hx276_1, hx277_0, hx277_1⟩ (fun hHeld => ?_); refine with_tabW r14_Load.tab15 r14_Load.bits15 (fun HT_ HW_ => ?_)
             generalize wr.drew = w64 at HO_10 HO_14 HO_15 HO_270002 BK251 BK252 BK269 HK HB hx276_0 hx276_1 hx277_0 hx277_1 hHeld ⊢
             refine pure_ (i := 0) (N := some 57) (v := ?_) (a' := ?_) #[true, false, false, false, false, false, false, false, false, false, false, false, false, false] rfl rfl (any_of HT_.out (by kernel_rfl)) (fun _ _ _ h => h) (Or.inl ⟨by rfl, ?_⟩) ?_ ?_
             rotate_left
             ·intro w'
              go_simp
              with_reducible rfl
             rotate_left
             ·simp only [Act.put, List.setIfInBounds_toArray, List.set_cons_zero, List.set_cons_succ, i64_w]
              rfl
             refine pure_ (i := 1) (N := some 58) (v := ?_) (a' := ?_) #[true, true, false, false, false, false, false, false, false, false, false, false, false, false] rfl rfl (any_of HT_.out (by kernel_rfl)) (fun _ _ _ h => h) (Or.inl ⟨by rfl, ?_⟩) ?_ ?_
             rotate_left
             ·intro w'
              go_simp
              with_reducible rfl
             rotate_left
             ·simp only [Act.put, List.setIfInBounds_toArray, List.set_cons_zero, List.set_cons_succ, i64_w]
              rfl
             refine pure_ (i := 2) (N := some 59) (v := ?_) (a' := ?_) #[true, true, true, false, false, false, false, false, false, false, false, false, false, false] rfl rfl (any_of HT_.out (by kernel_rfl)) (fun _ _ _ h => h) (Or.inl ⟨by rfl, ?_⟩) ?_ ?_
             rotate_left
             ·intro w'
              go_simp
              with_reducible rfl
             rotate_left
             ·simp only [Act.put, List.setIfInBounds_toArray, List.set_cons_zero, List.set_cons_succ, i64_w]
              rfl
             refine pure_ (i := 3) (N := some 60) (v := ?_) (a' := ?_) #[true, true, true, true, false, false, false, false, false, false, false, false, false, false] rfl rfl (any_of HT_.out (by kernel_rfl)) (fun _ _ _ h => h) (Or.inl ⟨by rfl, ?_⟩) ?_ ?_
             rotate_left
             ·intro w'
              go_simp
              with_reducible rfl
             rotate_left
             ·simp only [Act.put, List.setIfInBounds_toArray, List.set_cons_zero, List.set_cons_succ, i64_w]
              rfl
             refine pure_ (i := 5) (N := some 62) (v := ?_) (a' := ?_) #[true, true, true, true, false, true, false, false, false, false, false, false, false, false] rfl rfl (any_of HT_.out (by kernel_rfl)) (fun _ _ _ h => h) (Or.inl ⟨by rfl, ?_⟩) ?_ ?_
             rotate_left
             ·intro w'
              go_simp
              with_reducible rfl
             rotate_left
             ·simp only [Act.put, List.setIfInBounds_toArray, List.set_cons_zero, List.set_cons_succ, i64_w]
              rfl
             refine pure_ (i := 6) (N := some 63) (v := ?_) (a' := ?_) #[true, true, true, true, false, true, true, false, false, false, false, false, false, false] rfl rfl (any_of HT_.out (by kernel_rfl)) (fun _ _ _ h => h) (Or.inl ⟨by rfl, ?_⟩) ?_ ?_
             rotate_left
             ·intro w'
              go_simp
              with_reducible rfl
             rotate_left
             ·simp only [Act.put, List.setIfInBounds_toArray, List.set_cons_zero, List.set_cons_succ, i64_w]
              rfl
             refine pure_ (i := 7) (N := some 64) (v := ?_) (a' := ?_) #[true, true, true, true, false, true, true, true, false, false, false, false, false, false] rfl rfl (any_of HT_.out (by kernel_rfl)) (fun _ _ _ h => h) (Or.inl ⟨by rfl, ?_⟩) ?_ ?_
             rotate_left
             ·intro w'
              go_simp
              with_reducible rfl
             rotate_left
             ·simp only [Act.put, List.setIfInBounds_toArray, List.set_cons_zero, List.set_cons_succ, i64_w]
              rfl
             refine pure_ (i := 8) (N := some 65) (v := ?_) (a' := ?_) #[true, true, true, true, false, true, true, true, true, false, false, false, false, false] rfl rfl (any_of HT_.out (by kernel_rfl)) (fun _ _ _ h => h) (Or.inl ⟨by rfl, ?_⟩) ?_ ?_
             rotate_left
             ·intro w'
              go_simp
              with_reducible rfl
             rotate_left
             ·simp only [Act.put, List.setIfInBounds_toArray, List.set_cons_zero, List.set_cons_succ, i64_w]
              rfl
             refine pure_ (i := 11) (N := some 68) (v := ?_) (a' := ?_) #[true, true, true, true, false, true, true, true, true, false, false, true, false, false] rfl rfl (any_of HT_.out (by kernel_rfl)) (fun _ _ _ h => h) (Or.inl ⟨by rfl, ?_⟩) ?_ ?_
             rotate_left
             ·intro w'
              go_simp
              with_reducible rfl
             rotate_left
             ·simp only [Act.put, List.setIfInBounds_toArray, List.set_cons_zero, List.set_cons_succ, i64_w]
              rfl
             refine pure_ (i := 12) (N := some 69) (v := ?_) (a' := ?_) #[true, true, true, true, false, true, true, true, true, false, false, true, true, false] rfl rfl (any_of HT_.out (by kernel_rfl)) (fun _ _ _ h => h) (Or.inl ⟨by rfl, ?_⟩) ?_ ?_
             rotate_left
             ·intro w'
              go_simp
              with_reducible rfl
             rotate_left
             ·simp only [Act.put, List.setIfInBounds_toArray, List.set_cons_zero, List.set_cons_succ, i64_w]
              rfl
             refine take_ (i := 4) (N := some 61) (v := ?_) (a' := ?_) #[true, true, true, true, true, true, true, true, true, false, false, true, true, false] rfl rfl (take_ofW HT_.out HW_.out (by kernel_rfl)) (fun _ _ _ h => h) (Or.inl ⟨by rfl, ?_⟩) hHeld ?_ ?_
             rotate_left
             ·rintro w' ⟨s0, s1, s2, s3⟩
              go_simp
              with_reducible rfl
             rotate_left
             ·simp only [Act.put, List.setIfInBounds_toArray, List.set_cons_zero, List.set_cons_succ, i64_w]
              rfl
             refine take_ (i := 9) (N := some 66) (v := ?_) (a' := ?_) #[true, true, true, true, true, true, true, true, true, true, false, true, true, false] rfl rfl (take_ofW HT_.out HW_.out (by kernel_rfl)) (fun _ _ _ h => h) (Or.inl ⟨by rfl, ?_⟩) hHeld ?_ ?_
             rotate_left
             ·rintro w' ⟨s0, s1, s2, s3⟩
              go_simp
              with_reducible rfl
             rotate_left
             ·simp only [Act.put, List.setIfInBounds_toArray, List.set_cons_zero, List.set_cons_succ, i64_w]
              rfl
             refine pure_ (i := 10) (N := some 67) (v := ?_) (a' := ?_) #[true, true, true, true, true, true, true, true, true, true, true, true, true, false] rfl rfl (any_of HT_.out (by kernel_rfl)) (fun _ _ _ h => h) (Or.inl ⟨by rfl, ?_⟩) ?_ ?_
             rotate_left
             ·intro w'
              go_simp
              with_reducible rfl
             rotate_left
             ·simp only [Act.put, List.setIfInBounds_toArray, List.set_cons_zero, List.set_cons_succ, i64_w]
              rfl
             refine pure_ (i := 13) (N := some 70) (v := ?_) (a' := ?_) #[true, true, true, true, true, true, true, true, true, true, true, true, true, true] rfl rfl (any_of HT_.out (by kernel_rfl)) (fun _ _ _ h => h) (Or.inl ⟨by rfl, ?_⟩) ?_ ?_
             rotate_left
             ·intro w'
              go_simp
              with_reducible rfl
             rotate_left
             ·simp only [Act.put, List.setIfInBounds_toArray, List.set_cons_zero, List.set_cons_succ, i64_w]
              rfl
             refine done_ (done_of HT_.out (by kernel_rfl)) ?_
             have p278 : 0 ≤ (x17_1 : Int) := of_decide_eq_true (by first | (with_reducible assumption) | assumption)
             have q278 : x17_1 < (t270.length : Int) := of_decide_eq_true (by first | (with_reducible assumption) | assumption)
             obtain ⟨ad278, e278, hx278_0, hx278_1, hx278_2, hx278_3⟩ := at_T23 (Kd.R_reads' HO_14.out).2.2 x17_1 p278 q278
             cases e278
             replace p278 := eq_true p278
             replace q278 := eq_true q278
             try go_wp2_with (first | ((with_reducible refine gate_callee (f := 31) rfl ?_); refine goesL_ (some 77) rfl rfl Tryz.func31 (by kernel_rfl) rfl #[.agg #[.int .i64 ((rd_T23 t270 x17_1).f0), .int .i64 ((rd_T23 t270 x17_1).f1), .int .i64 ((rd_T23 t270 x17_1).f2), .int .i64 ((rd_T23 t270 x17_1).f3)]] rfl (by (try simp only [List.map_toArray, List.map_cons, List.map_nil]); first | done | rfl | (simp only [List.length_drop, List.length_take]; rfl)) ?_; (with_reducible refine (r14_size.calls ((rd_T23 t270 x17_1).f0) ((rd_T23 t270 x17_1).f1) ((rd_T23 t270 x17_1).f2) ((rd_T23 t270 x17_1).f3) t279 t280 _ A38.out).mono ?_); rintro e w66 ⟨rfl, hb⟩; refine ⟨_, rfl, ?_⟩; have n0_ := HO_6; have n1_ := Ad.mk (Kd.R_below (by (with_reducible repeat (first | apply Kd.R_alloc | apply Kd.R_drewN | apply Kd.R_drew)); exact HO_10.out) hb); have n2_ := Ad.mk (Kd.R_below (by (with_reducible repeat (first | apply Kd.R_alloc | apply Kd.R_drewN | apply Kd.R_drew)); exact HO_14.out) hb); have n3_ := Ad.mk (Kd.R_below (by (with_reducible repeat (first | apply Kd.R_alloc | apply Kd.R_drewN | apply Kd.R_drew)); exact HO_15.out) hb); have n4_ := Ad.mk (Kd.R_below (by (with_reducible repeat (first | apply Kd.R_alloc | apply Kd.R_drewN | apply Kd.R_drew)); exact HO_270002.out) hb); have n5_ := Ad.mk (blk_below (g := gb251) (o := .cells #[.int .i64 x252000_1, .int .i64 x252001_1, .slice none 0 0] 53 (0, 0)) (by (with_reducible repeat (first | refine bkN ?_ _ | refine bkD ?_ | refine bkA ?_ _)); exact BK251.out) hb); have n6_ := Ad.mk (blk_below (g := gb252) (o := .cells #[.int .i64 0, .int .i64 0, .slice none 0 0] 53 (0, 0)) (by (with_reducible repeat (first | refine bkN ?_ _ | refine bkD ?_ | refine bkA ?_ _)); exact BK252.out) hb); have n7_ := Ad.mk (blk_below (g := gb269) (o := .cells #[.int .i64 x270000_1, .int .i64 x270001_1, u270002] 53 (0, 0)) (by (with_reducible repeat (first | refine bkN ?_ _ | refine bkD ?_ | refine bkA ?_ _)); exact BK269.out) hb); have n8_ := Ad.mk (Kept.below (S := (fun k_ => P0_ k_)) (by repeat (first | (with_reducible first | exact HK.out | apply Kept.alloc | apply Kept.drewN | apply Kept.drew | refine Kept.setCell ?_ (.inr GW251.out) _ | refine Kept.setCell ?_ (.inr GW252.out) _ | refine Kept.setCell ?_ (.inr GW269.out) _) | exact HK.out)) hb); have n9_ := Ad.mk (below_step (by repeat (first | (with_reducible first | exact HB.out | apply bwA | apply bwN | apply bw1 | refine bwS ?_ GE251.out | refine bwS ?_ GE252.out | refine bwS ?_ GE269.out) | exact HB.out)) hb); clear HO_6; clear HO_10; clear HO_14; clear HO_15; clear HO_270002; clear BK251; clear BK252; clear BK269; clear HK; clear HB; have HO_6 := n0_; have HO_10 := n1_; have HO_14 := n2_; have HO_15 := n3_; have HO_270002 := n4_; have BK251 := n5_; have BK252 := n6_; have BK269 := n7_; have HK := n8_; have HB := n9_; clear n0_ n1_ n2_ n3_ n4_ n5_ n6_ n7_ n8_ n9_; (try clear hb); (try clear hb2); (try clear hk); (try clear hi)))
             have n0_ := HO_6
             have n1_ := Ad.mk (Kd.R_drew HO_10.out)
             have n2_ := Ad.mk (Kd.R_drew HO_14.out)
             have n3_ := Ad.mk (Kd.R_drew HO_15.out)
             have n4_ := Ad.mk (Kd.R_drew HO_270002.out)
             have n5_ := Ad.mk (bkD BK251.out)
             have n6_ := Ad.mk (bkD BK252.out)
             have n7_ := Ad.mk (bkD BK269.out)
             have n8_ := Ad.mk (Kept.drew HK.out)
             have n9_ := Ad.mk (bw1 HB.out)
             clear HO_6
             clear HO_10
             clear HO_14
             clear HO_15
             clear HO_270002
             clear BK251
             clear BK252
             clear BK269
             clear HK
             clear HB
             have HO_6 := n0_
             have HO_10 := n1_
             have HO_14 := n2_
             have HO_15 := n3_
             have HO_270002 := n4_
             have BK251 := n5_
             have BK252 := n6_
             have BK269 := n7_
             have HK := n8_
             have HB := n9_
             clear n0_ n1_ n2_ n3_ n4_ n5_ n6_ n7_ n8_ n9_
             have p281 : 0 ≤ (x17_1 : Int) := of_decide_eq_true (by first | (with_reducible assumption) | assumption)
             have q281 : x17_1 < (t259.length : Int) := of_decide_eq_true (by first | (with_reducible assumption) | assumption)
             obtain ⟨ad281, e281, hx281_0, hx281_1⟩ := at_T95 (Kd.R_reads' HO_10.out).2.2 x17_1 p281 q281
             obtain rfl : ad276 = ad281 := (by injection e281)
             replace p281 := eq_true p281
             replace q281 := eq_true q281
             have p282 : 0 ≤ (x17_1 : Int) := of_decide_eq_true (by first | (with_reducible assumption) | assumption)
             have q282 : x17_1 < (t259.length : Int) := of_decide_eq_true (by first | (with_reducible assumption) | assumption)
             obtain ⟨ad282, e282, hx282_0, hx282_1⟩ := at_T95 (Kd.R_reads' HO_10.out).2.2 x17_1 p282 q282
             obtain rfl : ad276 = ad282 := (by injection e282)
             replace p282 := eq_true p282
             replace q282 := eq_true q282
             have p283 : 0 ≤ (x17_1 : Int) := of_decide_eq_true (by first | (with_reducible assumption) | assumption)
             have q283 : x17_1 < (t259.length : Int) := of_decide_eq_true (by first | (with_reducible assumption) | assumption)
             obtain ⟨ad283, e283, hx283_0, hx283_1⟩ := at_T95 (Kd.R_reads' HO_10.out).2.2 x17_1 p283 q283
             obtain rfl : ad276 = ad283 := (by injection e283)
             replace p283 := eq_true p283
             replace q283 := eq_true q283
             have q68 : ((wrap64 (((rd_T95 t259 x17_1).f0) + ((rd_T95 t259 x17_1).f1))) : Int) ≤ ((t253.length : Int) : Int) := of_decide_eq_true (by first | (with_reducible assumption) | assumption)
             obtain ⟨i068, hi068, _, hsz68, _⟩ := info_parts info5
             have hroom68 : t253.length ≤ co15 := HO_6.out.2
             have hC68 : Kd.C (Kd.int .u8) _ Ao15 t253.length t253 := Kd.C_below HO_6.out.1 HB.out
             have ql68 : (((rd_T95 t259 x17_1).f0) : Int) ≤ ((wrap64 (((rd_T95 t259 x17_1).f0) + ((rd_T95 t259 x17_1).f1))) : Int) := of_decide_eq_true (by first | (with_reducible assumption) | assumption)
             have q068 : (0 : Int) ≤ (((rd_T95 t259 x17_1).f0) : Int) := of_decide_eq_true (by first | (with_reducible assumption) | assumption)
             have hcut68 := cut_mid (P := Tryz.prog) 27 5 .i64 .i64 Tryz.underlying27 hi068 1 hsz68 Ao15 t253.length co15 ((rd_T95 t259 x17_1).f0) (wrap64 (((rd_T95 t259 x17_1).f0) + ((rd_T95 t259 x17_1).f1))) q068 ql68 q68 hroom68
             have hr68 := Kd.C_mid (lo := (((rd_T95 t259 x17_1).f0) : Int).toNat) (hi := ((wrap64 (((rd_T95 t259 x17_1).f0) + ((rd_T95 t259 x17_1).f1))) : Int).toNat) (c := co15) hC68 (by omega) (by omega) hroom68
             obtain ⟨A68, hA68⟩ : ∃ A1, A1 = (if co15 = (((rd_T95 t259 x17_1).f0) : Int).toNat then Ao15 else (Ao15 : Option Addr).map (·.add ((((rd_T95 t259 x17_1).f0) : Int).toNat * 1))) := ⟨_, rfl⟩
             obtain ⟨c68, hc68⟩ : ∃ c1, c1 = co15 - (((rd_T95 t259 x17_1).f0) : Int).toNat := ⟨_, rfl⟩
             have hy68 : y284.length = ((wrap64 (((rd_T95 t259 x17_1).f0) + ((rd_T95 t259 x17_1).f1))) : Int).toNat - (((rd_T95 t259 x17_1).f0) : Int).toNat := (by rw [Ny284.out, List.length_drop, List.length_take] <;> omega)
             rw [show ((t253).take ((wrap64 (((rd_T95 t259 x17_1).f0) + ((rd_T95 t259 x17_1).f1))) : Int).toNat).drop (((rd_T95 t259 x17_1).f0) : Int).toNat = y284 from Ny284.out.symm] at hr68
             replace hr68 : Kd.C (Kd.int .u8) _ A68 y284.length y284 := (by rw [hA68]; exact hr68)
             rw [← hy68, ← hA68, ← hc68] at hcut68
             have HR287 := Ad.mk hr68
             have HC287 := Ad.mk (show y284.length ≤ c68 from by rw [hy68, hc68]; exact Nat.sub_le_sub_right (Nat.le_trans (by omega) hroom68) _)
             clear hr68 hC68 hroom68 hi068 hsz68 hc68
             have KY68 := Ad.mk hy68
             have KA68 := Ad.mk hA68
             clear hy68 hA68
             have KL68 := Ad.mk (show ((wrap64 (((rd_T95 t259 x17_1).f0) + ((rd_T95 t259 x17_1).f1))) : Int).toNat ≤ t253.length from by omega)
             have KM68 := Ad.mk (show (((rd_T95 t259 x17_1).f0) : Int).toNat ≤ ((wrap64 (((rd_T95 t259 x17_1).f0) + ((rd_T95 t259 x17_1).f1))) : Int).toNat from by omega)
             replace q68 := eq_true q68
             refine start_ (n := 28) (S := fun w' => w'.cell? (ad276.add ((x17_1).toNat * 2)) = some (.int .i64 ((rd_T95 t259 x17_1).f0)) ∧ w'.cell? ⟨(ad276.add ((x17_1).toNat * 2)).block, (ad276.add ((x17_1).toNat * 2)).off + 1, none⟩ = some (.int .i64 ((rd_T95 t259 x17_1).f1)) ∧ w'.cell? (ad276.add ((x17_1).toNat * 2)) = some (.int .i64 ((rd_T95 t259 x17_1).f0)) ∧ w'.cell? ⟨(ad276.add ((x17_1).toNat * 2)).block, (ad276.add ((x17_1).toNat * 2)).off + 1, none⟩ = some (.int .i64 ((rd_T95 t259 x17_1).f1)) ∧ w'.cell? (ad276.add ((x17_1).toNat * 2)) = some (.int .i64 ((rd_T95 t259 x17_1).f0)) ∧ w'.cell? ⟨(ad276.add ((x17_1).toNat * 2)).block, (ad276.add ((x17_1).toNat * 2)).off + 1, none⟩ = some (.int .i64 ((rd_T95 t259 x17_1).f1))) (ds := []) #[false, false, false, false, false, false, false, false, false, false, false, false, false, false, false, false, false, false, false, false, false, false, false, false, false, false, false, false] (by kernel_rfl) rfl rfl ⟨hx281_0, hx281_1, hx282_0, hx282_1, hx283_0, hx283_1⟩ (fun hHeld => ?_); refine with_tabW r14_Load.tab18 r14_Load.bits18 (fun HT_ HW_ => ?_)
             generalize w66.drew = w67 at HO_10 HO_14 HO_15 HO_270002 BK251 BK252 BK269 HK HB HR287 hx281_0 hx281_1 hx282_0 hx282_1 hx283_0 hx283_1 hHeld ⊢
             refine pure_ (i := 0) (N := some 81) (v := ?_) (a' := ?_) #[true, false, false, false, false, false, false, false, false, false, false, false, false, false, false, false, false, false, false, false, false, false, false, false, false, false, false, false] rfl rfl (any_of HT_.out (by kernel_rfl)) (fun _ _ _ h => h) (Or.inl ⟨by rfl, ?_⟩) ?_ ?_
             rotate_left
             ·intro w'
              go_simp
              with_reducible rfl
             rotate_left
             ·simp only [Act.put, List.setIfInBounds_toArray, List.set_cons_zero, List.set_cons_succ, i64_w]
              rfl
             refine pure_ (i := 1) (N := some 82) (v := ?_) (a' := ?_) #[true, true, false, false, false, false, false, false, false, false, false, false, false, false, false, false, false, false, false, false, false, false, false, false, false, false, false, false] rfl rfl (any_of HT_.out (by kernel_rfl)) (fun _ _ _ h => h) (Or.inl ⟨by rfl, ?_⟩) ?_ ?_
             rotate_left
             ·intro w'
              go_simp
              with_reducible rfl
             rotate_left
             ·simp only [Act.put, List.setIfInBounds_toArray, List.set_cons_zero, List.set_cons_succ, i64_w]
              rfl
             refine pure_ (i := 2) (N := some 83) (v := ?_) (a' := ?_) #[true, true, true, false, false, false, false, false, false, false, false, false, false, false, false, false, false, false, false, false, false, false, false, false, false, false, false, false] rfl rfl (any_of HT_.out (by kernel_rfl)) (fun _ _ _ h => h) (Or.inl ⟨by rfl, ?_⟩) ?_ ?_
             rotate_left
             ·intro w'
              go_simp
              with_reducible rfl
             rotate_left
             ·simp only [Act.put, List.setIfInBounds_toArray, List.set_cons_zero, List.set_cons_succ, i64_w]
              rfl
             refine pure_ (i := 3) (N := some 84) (v := ?_) (a' := ?_) #[true, true, true, true, false, false, false, false, false, false, false, false, false, false, false, false, false, false, false, false, false, false, false, false, false, false, false, false] rfl rfl (any_of HT_.out (by kernel_rfl)) (fun _ _ _ h => h) (Or.inl ⟨by rfl, ?_⟩) ?_ ?_
             rotate_left
             ·intro w'
              go_simp
              with_reducible rfl
             rotate_left
             ·simp only [Act.put, List.setIfInBounds_toArray, List.set_cons_zero, List.set_cons_succ, i64_w]
              rfl
             refine pure_ (i := 4) (N := some 85) (v := ?_) (a' := ?_) #[true, true, true, true, true, false, false, false, false, false, false, false, false, false, false, false, false, false, false, false, false, false, false, false, false, false, false, false] rfl rfl (any_of HT_.out (by kernel_rfl)) (fun _ _ _ h => h) (Or.inl ⟨by rfl, ?_⟩) ?_ ?_
             rotate_left
             ·intro w'
              go_simp
              with_reducible rfl
             rotate_left
             ·simp only [Act.put, List.setIfInBounds_toArray, List.set_cons_zero, List.set_cons_succ, i64_w]
              rfl
             refine pure_ (i := 6) (N := some 87) (v := ?_) (a' := ?_) #[true, true, true, true, true, false, true, false, false, false, false, false, false, false, false, false, false, false, false, false, false, false, false, false, false, false, false, false] rfl rfl (any_of HT_.out (by kernel_rfl)) (fun _ _ _ h => h) (Or.inl ⟨by rfl, ?_⟩) ?_ ?_
             rotate_left
             ·intro w'
              go_simp
              with_reducible rfl
             rotate_left
             ·simp only [Act.put, List.setIfInBounds_toArray, List.set_cons_zero, List.set_cons_succ, i64_w]
              rfl
             refine pure_ (i := 7) (N := some 88) (v := ?_) (a' := ?_) #[true, true, true, true, true, false, true, true, false, false, false, false, false, false, false, false, false, false, false, false, false, false, false, false, false, false, false, false] rfl rfl (any_of HT_.out (by kernel_rfl)) (fun _ _ _ h => h) (Or.inl ⟨by rfl, ?_⟩) ?_ ?_
             rotate_left
             ·intro w'
              go_simp
              with_reducible rfl
             rotate_left
             ·simp only [Act.put, List.setIfInBounds_toArray, List.set_cons_zero, List.set_cons_succ, i64_w]
              rfl
             refine pure_ (i := 8) (N := some 89) (v := ?_) (a' := ?_) #[true, true, true, true, true, false, true, true, true, false, false, false, false, false, false, false, false, false, false, false, false, false, false, false, false, false, false, false] rfl rfl (any_of HT_.out (by kernel_rfl)) (fun _ _ _ h => h) (Or.inl ⟨by rfl, ?_⟩) ?_ ?_
             rotate_left
             ·intro w'
              go_simp
              with_reducible rfl
             rotate_left
             ·simp only [Act.put, List.setIfInBounds_toArray, List.set_cons_zero, List.set_cons_succ, i64_w]
              rfl
             refine pure_ (i := 9) (N := some 90) (v := ?_) (a' := ?_) #[true, true, true, true, true, false, true, true, true, true, false, false, false, false, false, false, false, false, false, false, false, false, false, false, false, false, false, false] rfl rfl (any_of HT_.out (by kernel_rfl)) (fun _ _ _ h => h) (Or.inl ⟨by rfl, ?_⟩) ?_ ?_
             rotate_left
             ·intro w'
              go_simp
              with_reducible rfl
             rotate_left
             ·simp only [Act.put, List.setIfInBounds_toArray, List.set_cons_zero, List.set_cons_succ, i64_w]
              rfl
             refine pure_ (i := 11) (N := some 92) (v := ?_) (a' := ?_) #[true, true, true, true, true, false, true, true, true, true, false, true, false, false, false, false, false, false, false, false, false, false, false, false, false, false, false, false] rfl rfl (any_of HT_.out (by kernel_rfl)) (fun _ _ _ h => h) (Or.inl ⟨by rfl, ?_⟩) ?_ ?_
             rotate_left
             ·intro w'
              go_simp
              with_reducible rfl
             rotate_left
             ·simp only [Act.put, List.setIfInBounds_toArray, List.set_cons_zero, List.set_cons_succ, i64_w]
              rfl
             refine pure_ (i := 12) (N := some 93) (v := ?_) (a' := ?_) #[true, true, true, true, true, false, true, true, true, true, false, true, true, false, false, false, false, false, false, false, false, false, false, false, false, false, false, false] rfl rfl (any_of HT_.out (by kernel_rfl)) (fun _ _ _ h => h) (Or.inl ⟨by rfl, ?_⟩) ?_ ?_
             rotate_left
             ·intro w'
              go_simp
              with_reducible rfl
             rotate_left
             ·simp only [Act.put, List.setIfInBounds_toArray, List.set_cons_zero, List.set_cons_succ, i64_w]
              rfl
             refine pure_ (i := 13) (N := some 94) (v := ?_) (a' := ?_) #[true, true, true, true, true, false, true, true, true, true, false, true, true, true, false, false, false, false, false, false, false, false, false, false, false, false, false, false] rfl rfl (any_of HT_.out (by kernel_rfl)) (fun _ _ _ h => h) (Or.inl ⟨by rfl, ?_⟩) ?_ ?_
             rotate_left
             ·intro w'
              go_simp
              with_reducible rfl
             rotate_left
             ·simp only [Act.put, List.setIfInBounds_toArray, List.set_cons_zero, List.set_cons_succ, i64_w]
              rfl
             refine pure_ (i := 14) (N := some 95) (v := ?_) (a' := ?_) #[true, true, true, true, true, false, true, true, true, true, false, true, true, true, true, false, false, false, false, false, false, false, false, false, false, false, false, false] rfl rfl (any_of HT_.out (by kernel_rfl)) (fun _ _ _ h => h) (Or.inl ⟨by rfl, ?_⟩) ?_ ?_
             rotate_left
             ·intro w'
              go_simp
              with_reducible rfl
             rotate_left
             ·simp only [Act.put, List.setIfInBounds_toArray, List.set_cons_zero, List.set_cons_succ, i64_w]
              rfl
             refine pure_ (i := 18) (N := some 99) (v := ?_) (a' := ?_) #[true, true, true, true, true, false, true, true, true, true, false, true, true, true, true, false, false, false, true, false, false, false, false, false, false, false, false, false] rfl rfl (any_of HT_.out (by kernel_rfl)) (fun _ _ _ h => h) (Or.inl ⟨by rfl, ?_⟩) ?_ ?_
             rotate_left
             ·intro w'
              go_simp
              with_reducible rfl
             rotate_left
             ·simp only [Act.put, List.setIfInBounds_toArray, List.set_cons_zero, List.set_cons_succ, i64_w]
              rfl
             refine pure_ (i := 19) (N := some 100) (v := ?_) (a' := ?_) #[true, true, true, true, true, false, true, true, true, true, false, true, true, true, true, false, false, false, true, true, false, false, false, false, false, false, false, false] rfl rfl (any_of HT_.out (by kernel_rfl)) (fun _ _ _ h => h) (Or.inl ⟨by rfl, ?_⟩) ?_ ?_
             rotate_left
             ·intro w'
              go_simp
              with_reducible rfl
             rotate_left
             ·simp only [Act.put, List.setIfInBounds_toArray, List.set_cons_zero, List.set_cons_succ, i64_w]
              rfl
             refine take_ (i := 5) (N := some 86) (v := ?_) (a' := ?_) #[true, true, true, true, true, true, true, true, true, true, false, true, true, true, true, false, false, false, true, true, false, false, false, false, false, false, false, false] rfl rfl (take_ofW HT_.out HW_.out (by kernel_rfl)) (fun _ _ _ h => h) (Or.inl ⟨by rfl, ?_⟩) hHeld ?_ ?_
             rotate_left
             ·rintro w' ⟨s0, s1, s2, s3, s4, s5⟩
              go_simp
              with_reducible rfl
             rotate_left
             ·simp only [Act.put, List.setIfInBounds_toArray, List.set_cons_zero, List.set_cons_succ, i64_w]
              rfl
             refine take_ (i := 10) (N := some 91) (v := ?_) (a' := ?_) #[true, true, true, true, true, true, true, true, true, true, true, true, true, true, true, false, false, false, true, true, false, false, false, false, false, false, false, false] rfl rfl (take_ofW HT_.out HW_.out (by kernel_rfl)) (fun _ _ _ h => h) (Or.inl ⟨by rfl, ?_⟩) hHeld ?_ ?_
             rotate_left
             ·rintro w' ⟨s0, s1, s2, s3, s4, s5⟩
              go_simp
              with_reducible rfl
             rotate_left
             ·simp only [Act.put, List.setIfInBounds_toArray, List.set_cons_zero, List.set_cons_succ, i64_w]
              rfl
             refine take_ (i := 15) (N := some 96) (v := ?_) (a' := ?_) #[true, true, true, true, true, true, true, true, true, true, true, true, true, true, true, true, false, false, true, true, false, false, false, false, false, false, false, false] rfl rfl (take_ofW HT_.out HW_.out (by kernel_rfl)) (fun _ _ _ h => h) (Or.inl ⟨by rfl, ?_⟩) hHeld ?_ ?_
             rotate_left
             ·rintro w' ⟨s0, s1, s2, s3, s4, s5⟩
              go_simp
              with_reducible rfl
             rotate_left
             ·simp only [Act.put, List.setIfInBounds_toArray, List.set_cons_zero, List.set_cons_succ, i64_w]
              rfl
             refine pure_ (i := 16) (N := some 97) (v := ?_) (a' := ?_) #[true, true, true, true, true, true, true, true, true, true, true, true, true, true, true, true, true, false, true, true, false, false, false, false, false, false, false, false] rfl rfl (any_of HT_.out (by kernel_rfl)) (fun _ _ _ h => h) (Or.inl ⟨by rfl, ?_⟩) ?_ ?_
             rotate_left
             ·intro w'
              go_simp
              with_reducible rfl
             rotate_left
             ·simp only [Act.put, List.setIfInBounds_toArray, List.set_cons_zero, List.set_cons_succ, i64_w]
              rfl
             refine pure_ (i := 17) (N := some 98) (v := ?_) (a' := ?_) #[true, true, true, true, true, true, true, true, true, true, true, true, true, true, true, true, true, true, true, true, false, false, false, false, false, false, false, false] rfl rfl (any_of HT_.out (by kernel_rfl)) (fun _ _ _ h => h) (Or.inl ⟨by rfl, ?_⟩) ?_ ?_
             rotate_left
             ·intro w'
              go_simp
              with_reducible rfl
             rotate_left
             ·simp only [Act.put, List.setIfInBounds_toArray, List.set_cons_zero, List.set_cons_succ, i64_w]
              rfl
             refine one_ (i := 20) (N := some 101) #[true, true, true, true, true, true, true, true, true, true, true, true, true, true, true, true, true, true, true, true, true, false, false, false, false, false, false, false] rfl rfl (one_of HT_.out (by kernel_rfl)) (by decide) (fun K hK => ?_)
             refine goes_ Tryz.func32 (by kernel_rfl) rfl #[.slice A68 y284.length c68, .int .i64 t279, .int .i64 t280] (by rfl) rfl rfl (by (try simp only [List.map_toArray, List.map_cons, List.map_nil]); first | done | rfl | (simp only [List.length_drop, List.length_take]; rfl)) ?_
             with_reducible refine (r06_Get.calls k1 _ _ y284 t279 t280 t288 t289 t290 _ ?side1 ?side2 A42.out).mono ?_
             (case side1 => repeat (first | exact (by repeat (first | (with_reducible exact HR287.out) | (with_reducible refine Kd.C_alloc ?_ _) | (with_reducible refine Kd.C_drewN ?_ _) | (with_reducible refine Kd.C_drew ?_) | exact HR287.out)) | (with_reducible refine Kd.C_alloc ?_ _) | (with_reducible refine Kd.C_drewN ?_ _) | (with_reducible refine Kd.C_drew ?_)))
             (case side2 => exact HC287.out)
             rintro e w69 ⟨v291, rfl, ho0, hb⟩
             have HS0_ := (hb.cell (World.block_lt_of_cell? _ _ (hHeld.1))).trans (hHeld.1)
             have HS1_ := (hb.cell (World.block_lt_of_cell? _ _ (hHeld.2.1))).trans (hHeld.2.1)
             have HS2_ := (hb.cell (World.block_lt_of_cell? _ _ (hHeld.2.2.1))).trans (hHeld.2.2.1)
             have HS3_ := (hb.cell (World.block_lt_of_cell? _ _ (hHeld.2.2.2.1))).trans (hHeld.2.2.2.1)
             have HS4_ := (hb.cell (World.block_lt_of_cell? _ _ (hHeld.2.2.2.2.1))).trans (hHeld.2.2.2.2.1)
             have HS5_ := (hb.cell (World.block_lt_of_cell? _ _ (hHeld.2.2.2.2.2))).trans (hHeld.2.2.2.2.2)
             refine ⟨_, rfl, ?_⟩
             have n0_ := HO_6
             have n1_ := Ad.mk (Kd.R_below (by (with_reducible repeat (first | apply Kd.R_alloc | apply Kd.R_drewN | apply Kd.R_drew)); exact HO_10.out) hb)
             have n2_ := Ad.mk (Kd.R_below (by (with_reducible repeat (first | apply Kd.R_alloc | apply Kd.R_drewN | apply Kd.R_drew)); exact HO_14.out) hb)
             have n3_ := Ad.mk (Kd.R_below (by (with_reducible repeat (first | apply Kd.R_alloc | apply Kd.R_drewN | apply Kd.R_drew)); exact HO_15.out) hb)
             have n4_ := Ad.mk (Kd.R_elder' (by (with_reducible repeat (first | apply Kd.R_alloc | apply Kd.R_drewN | apply Kd.R_drew)); exact HO_270002.out) (Kd.R_base ho0) hb)
             have n5_ := Ad.mk (Kd.R_lower (Kd.R_new' (Kd.R_newM (M := fun k_ => (P0_ k_ ∨ w.heap.size ≤ k_)) ho0 (by first | exact HK.out.1 | exact (show Kept w _ (fun k_ => P0_ k_) from by repeat (first | (with_reducible first | exact HK.out | apply Kept.alloc | apply Kept.drewN | apply Kept.drew | refine Kept.setCell ?_ (.inr GW251.out) _ | refine Kept.setCell ?_ (.inr GW252.out) _ | refine Kept.setCell ?_ (.inr GW269.out) _) | exact HK.out)).1) (fun k_ h_ => .inr h_)) (Kd.R_lt (by (with_reducible repeat (first | apply Kd.R_alloc | apply Kd.R_drewN | apply Kd.R_drew)); exact HO_270002.out))) (below_size (by repeat (first | (with_reducible first | exact HB.out | apply bwA | apply bwN | apply bw1 | refine bwS ?_ GE251.out | refine bwS ?_ GE252.out | refine bwS ?_ GE269.out) | exact HB.out))))
             have n6_ := Ad.mk (blk_below (g := gb251) (o := .cells #[.int .i64 x252000_1, .int .i64 x252001_1, .slice none 0 0] 53 (0, 0)) (by (with_reducible repeat (first | refine bkN ?_ _ | refine bkD ?_ | refine bkA ?_ _)); exact BK251.out) hb)
             have n7_ := Ad.mk (blk_below (g := gb252) (o := .cells #[.int .i64 0, .int .i64 0, .slice none 0 0] 53 (0, 0)) (by (with_reducible repeat (first | refine bkN ?_ _ | refine bkD ?_ | refine bkA ?_ _)); exact BK252.out) hb)
             have n8_ := Ad.mk (blk_below (g := gb269) (o := .cells #[.int .i64 x270000_1, .int .i64 x270001_1, u270002] 53 (0, 0)) (by (with_reducible repeat (first | refine bkN ?_ _ | refine bkD ?_ | refine bkA ?_ _)); exact BK269.out) hb)
             have n9_ := Ad.mk (Kd.C_below (by repeat (first | (with_reducible exact HR287.out) | (with_reducible refine Kd.C_alloc ?_ _) | (with_reducible refine Kd.C_drewN ?_ _) | (with_reducible refine Kd.C_drew ?_) | exact HR287.out)) hb)
             have n10_ := Ad.mk (Kept.below (S := (fun k_ => P0_ k_)) (by repeat (first | (with_reducible first | exact HK.out | apply Kept.alloc | apply Kept.drewN | apply Kept.drew | refine Kept.setCell ?_ (.inr GW251.out) _ | refine Kept.setCell ?_ (.inr GW252.out) _ | refine Kept.setCell ?_ (.inr GW269.out) _) | exact HK.out)) hb)
             have n11_ := Ad.mk (below_step (by repeat (first | (with_reducible first | exact HB.out | apply bwA | apply bwN | apply bw1 | refine bwS ?_ GE251.out | refine bwS ?_ GE252.out | refine bwS ?_ GE269.out) | exact HB.out)) hb)
             clear HO_6
             clear HO_10
             clear HO_14
             clear HO_15
             clear HO_270002
             clear BK251
             clear BK252
             clear BK269
             clear HR287
             clear HK
             clear HB
             have HO_6 := n0_
             have HO_10 := n1_
             have HO_14 := n2_
             have HO_15 := n3_
             have HO_270002 := n4_
             have HO292 := n5_
             have BK251 := n6_
             have BK252 := n7_
             have BK269 := n8_
             have HR287 := n9_
             have HK := n10_
             have HB := n11_
             clear n0_ n1_ n2_ n3_ n4_ n5_ n6_ n7_ n8_ n9_ n10_ n11_
             (try clear hb)
             (try clear hb2)
             (try clear hk)
             (try clear hi)
             (try clear ho0)
             refine hK.out _ _ ⟨HS0_, HS1_, HS2_, HS3_, HS4_, HS5_⟩ (fun hHeld => ?_)
             clear hK K
             refine norm_ (a' := ?_) ?_ ?_
             rotate_left
             ·show Act.put _ (some 101) _ = _
              simp only [Act.put, List.setIfInBounds_toArray, List.set_cons_zero, List.set_cons_succ, i64_w]
              rfl
             refine pure_ (i := 21) (N := some 80) (v := ?_) (a' := ?_) #[true, true, true, true, true, true, true, true, true, true, true, true, true, true, true, true, true, true, true, true, true, true, false, false, false, false, false, false] rfl rfl (any_of HT_.out (by kernel_rfl)) (fun _ _ _ h => h) (Or.inl ⟨by rfl, ?_⟩) ?_ ?_
             rotate_left
             ·intro w'
              go_simp
              with_reducible rfl
             rotate_left
             ·simp only [Act.put, List.setIfInBounds_toArray, List.set_cons_zero, List.set_cons_succ, i64_w]
              rfl
             refine pure_ (i := 22) (N := some 102) (v := ?_) (a' := ?_) #[true, true, true, true, true, true, true, true, true, true, true, true, true, true, true, true, true, true, true, true, true, true, true, false, false, false, false, false] rfl rfl (any_of HT_.out (by kernel_rfl)) (fun _ _ _ h => h) (Or.inl ⟨by rfl, ?_⟩) ?_ ?_
             rotate_left
             ·intro w'
              go_simp
              with_reducible rfl
             rotate_left
             ·simp only [Act.put, List.setIfInBounds_toArray, List.set_cons_zero, List.set_cons_succ, i64_w]
              rfl
             refine pure_ (i := 23) (N := some 103) (v := ?_) (a' := ?_) #[true, true, true, true, true, true, true, true, true, true, true, true, true, true, true, true, true, true, true, true, true, true, true, true, false, false, false, false] rfl rfl (any_of HT_.out (by kernel_rfl)) (fun _ _ _ h => h) (Or.inl ⟨by rfl, ?_⟩) ?_ ?_
             rotate_left
             ·intro w'
              go_simp
              with_reducible rfl
             rotate_left
             ·simp only [Act.put, List.setIfInBounds_toArray, List.set_cons_zero, List.set_cons_succ, i64_w]
              rfl
             refine pure_ (i := 24) (N := some 104) (v := ?_) (a' := ?_) #[true, true, true, true, true, true, true, true, true, true, true, true, true, true, true, true, true, true, true, true, true, true, true, true, true, false, false, false] rfl rfl (any_of HT_.out (by kernel_rfl)) (fun _ _ _ h => h) (Or.inl ⟨by rfl, ?_⟩) ?_ ?_
             rotate_left
             ·intro w'
              go_simp
              with_reducible rfl
             rotate_left
             ·simp only [Act.put, List.setIfInBounds_toArray, List.set_cons_zero, List.set_cons_succ, i64_w]
              rfl
             refine pure_ (i := 25) (N := some 20) (v := ?_) (a' := ?_) #[true, true, true, true, true, true, true, true, true, true, true, true, true, true, true, true, true, true, true, true, true, true, true, true, true, true, false, false] rfl rfl (any_of HT_.out (by kernel_rfl)) (fun _ _ _ h => h) (Or.inl ⟨by rfl, ?_⟩) ?_ ?_
             rotate_left
             ·intro w'
              go_simp
              with_reducible rfl
             rotate_left
             ·simp only [Act.put, List.setIfInBounds_toArray, List.set_cons_zero, List.set_cons_succ, i64_w]
              rfl
             refine pure_ (i := 26) (N := some 21) (v := ?_) (a' := ?_) #[true, true, true, true, true, true, true, true, true, true, true, true, true, true, true, true, true, true, true, true, true, true, true, true, true, true, true, false] rfl rfl (any_of HT_.out (by kernel_rfl)) (fun _ _ _ h => h) (Or.inl ⟨by rfl, ?_⟩) ?_ ?_
             rotate_left
             ·intro w'
              go_simp
              with_reducible rfl
             rotate_left
             ·simp only [Act.put, List.setIfInBounds_toArray, List.set_cons_zero, List.set_cons_succ, i64_w]
              rfl
             refine pure_ (i := 27) (N := some 22) (v := ?_) (a' := ?_) #[true, true, true, true, true, true, true, true, true, true, true, true, true, true, true, true, true, true, true, true, true, true, true, true, true, true, true, true] rfl rfl (any_of HT_.out (by kernel_rfl)) (fun _ _ _ h => h) (Or.inl ⟨by rfl, ?_⟩) ?_ ?_
             rotate_left
             ·intro w'
              go_simp
              with_reducible rfl
             rotate_left
             ·simp only [Act.put, List.setIfInBounds_toArray, List.set_cons_zero, List.set_cons_succ, i64_w]
              rfl
             refine done_ (done_of HT_.out (by kernel_rfl)) ?_
             have hnb70 := NB252_251.out
             have hnc70 := NB251_252.out
             have hnb71 := NB252_269.out
             have hnc71 := NB269_252.out
             have hcz72_0 : w69.cell? ⟨gb252, 0, none⟩ = some (.int .i64 0) := (bkC BK252.out 0).trans rfl
             have hcz72_1 : w69.cell? ⟨gb252, 1, none⟩ = some (.int .i64 0) := (bkC BK252.out 1).trans rfl
             have hcz72_2 : w69.cell? ⟨gb252, 2, none⟩ = some (.slice none 0 0) := (bkC BK252.out 2).trans rfl
             have hfz72_0 := bkF BK252.out 0
             have hfz72_1 := bkF BK252.out 1
             have hfz72_2 := bkF BK252.out 2
             have hnb73 := NB251_269.out
             have hnc73 := NB269_251.out
             have hcz74_0 : w69.cell? ⟨gb251, 0, none⟩ = some (.int .i64 x252000_1) := (bkC BK251.out 0).trans rfl
             have hcz74_1 : w69.cell? ⟨gb251, 1, none⟩ = some (.int .i64 x252001_1) := (bkC BK251.out 1).trans rfl
             have hcz74_2 : w69.cell? ⟨gb251, 2, none⟩ = some (.slice none 0 0) := (bkC BK251.out 2).trans rfl
             have hfz74_0 := bkF BK251.out 0
             have hfz74_1 := bkF BK251.out 1
             have hfz74_2 := bkF BK251.out 2
             try go_wp2
             refine bodyPost_ret (results_ctt rfl _ _ gb251 53 #[.int .i64 0, .int .i64 0, .slice none 0 0] (0, 0) _ rfl (by (with_reducible repeat (first | refine bkN ?_ _ | refine bkD ?_ | refine bkA ?_ _)); refine blk_put (cs := #[.int .i64 0, .int .i64 0, .slice none 0 0]) ?_ 2 _ rfl; (with_reducible repeat (first | refine bkN ?_ _ | refine bkD ?_ | refine bkA ?_ _)); refine blk_put (cs := #[.int .i64 0, .int .i64 x252001_1, .slice none 0 0]) ?_ 1 _ rfl; (with_reducible repeat (first | refine bkN ?_ _ | refine bkD ?_ | refine bkA ?_ _)); refine blk_put (cs := #[.int .i64 x252000_1, .int .i64 x252001_1, .slice none 0 0]) ?_ 0 _ rfl; (with_reducible repeat (first | refine bkN ?_ _ | refine bkD ?_ | refine bkA ?_ _)); exact BK251.out) Tryz.underlying53 rfl (by kernel_rfl)) rfl ?_
             exact ⟨_, _, by first | rfl | (simp [errW_none, errW_some] <;> rfl) | (simp [*, errW_none, errW_some] <;> rfl), by first | exact Kd.R_nil _ _ _ _ _ | exact Kd.N_nil _ _ _ _ _ | exact Kd.V_nil _ _ _ _ _ | exact Kd.Q_nil _ _ _ _ _ | exact Kd.S_nil _ _ _ _ _, by first | exact Kd.R_nil _ _ _ _ _ | exact Kd.N_nil _ _ _ _ _ | exact Kd.V_nil _ _ _ _ _ | exact Kd.Q_nil _ _ _ _ _ | exact Kd.S_nil _ _ _ _ _, by repeat (first | (with_reducible first | exact HB.out | apply bwA | apply bwN | apply bw1 | refine bwS ?_ GE251.out | refine bwS ?_ GE252.out | refine bwS ?_ GE269.out) | exact HB.out), by repeat (first | (with_reducible first | exact HK.out | apply Kept.alloc | apply Kept.drewN | apply Kept.drew | refine Kept.setCell ?_ (.inr GW251.out) _ | refine Kept.setCell ?_ (.inr GW252.out) _ | refine Kept.setCell ?_ (.inr GW269.out) _) | exact HK.out)⟩
           ·rw [if_neg c41] at H
            exact absurd H (by simp)
          ·rw [if_neg c40] at H
           exact absurd H (by simp)
         ·rw [if_neg c39] at H
          exact absurd H (by simp)
       ·rw [if_neg c28] at H
        exact absurd H (by simp)
      ·rw [if_neg c27] at H
       exact absurd H (by simp)
     ·rw [if_neg c26] at H
      have c26b0 : decide (x17_1 < (t270.length : Int)) = false := decide_eq_false c26
      clear c26
      by_cases c75 : x16_1 = (t253.length : Int)
      ·rw [if_pos c75] at H
       have c75b0 : (x16_1 == (t253.length : Int)) = true := beq_iff_eq.mpr c75
       have c75b1 : (x16_1 != (t253.length : Int)) = false := bne_eq_false_iff_eq.mpr c75
       clear c75
       simp only [Option.some.injEq, Prod.mk.injEq] at H
       obtain ⟨rfl, rfl, rfl, rfl, rfl⟩ := H
       obtain ⟨Ao76, co76, eo76⟩ := Kd.R_slice HO_14.out
       subst eo76
       have hnb77 := NB269_251.out
       have hnc77 := NB251_269.out
       have hnb78 := NB269_252.out
       have hnc78 := NB252_269.out
       have hcz79_0 : wr.cell? ⟨gb269, 0, none⟩ = some (.int .i64 x270000_1) := (bkC BK269.out 0).trans rfl
       have hcz79_1 : wr.cell? ⟨gb269, 1, none⟩ = some (.int .i64 x270001_1) := (bkC BK269.out 1).trans rfl
       have hcz79_2 : wr.cell? ⟨gb269, 2, none⟩ = some (u270002) := (bkC BK269.out 2).trans rfl
       have hfz79_0 := bkF BK269.out 0
       have hfz79_1 := bkF BK269.out 1
       have hfz79_2 := bkF BK269.out 2
       have hnb80 := NB251_252.out
       have hnc80 := NB252_251.out
       have hcz81_0 : wr.cell? ⟨gb251, 0, none⟩ = some (.int .i64 x252000_1) := (bkC BK251.out 0).trans rfl
       have hcz81_1 : wr.cell? ⟨gb251, 1, none⟩ = some (.int .i64 x252001_1) := (bkC BK251.out 1).trans rfl
       have hcz81_2 : wr.cell? ⟨gb251, 2, none⟩ = some (.slice none 0 0) := (bkC BK251.out 2).trans rfl
       have hfz81_0 := bkF BK251.out 0
       have hfz81_1 := bkF BK251.out 1
       have hfz81_2 := bkF BK251.out 2
       obtain ⟨Ao82, co82, eo82⟩ := Kd.R_slice HO_270002.out
       subst eo82
       go_wp2
       refine bodyPost_ret (results_ctt rfl _ _ gb251 53 #[.int .i64 x270000_1, .int .i64 x270001_1, .slice Ao82 x270002_1.length co82] (0, 0) _ rfl (by (with_reducible repeat (first | refine bkN ?_ _ | refine bkD ?_ | refine bkA ?_ _)); refine blk_put (cs := #[.int .i64 x270000_1, .int .i64 x270001_1, .slice none 0 0]) ?_ 2 _ rfl; (with_reducible repeat (first | refine bkN ?_ _ | refine bkD ?_ | refine bkA ?_ _)); refine blk_put (cs := #[.int .i64 x270000_1, .int .i64 x252001_1, .slice none 0 0]) ?_ 1 _ rfl; (with_reducible repeat (first | refine bkN ?_ _ | refine bkD ?_ | refine bkA ?_ _)); refine blk_put (cs := #[.int .i64 x252000_1, .int .i64 x252001_1, .slice none 0 0]) ?_ 0 _ rfl; (with_reducible repeat (first | refine bkN ?_ _ | refine bkD ?_ | refine bkA ?_ _)); exact BK251.out) Tryz.underlying53 rfl (by kernel_rfl)) rfl ?_
       exact ⟨_, _, by first | rfl | (simp [errW_none, errW_some] <;> rfl) | (simp [*, errW_none, errW_some] <;> rfl), by (with_reducible repeat (first | apply Kd.R_alloc | apply Kd.R_drewN | apply Kd.R_drew)); exact Kd.R_mono (Kd.R_far (p := ⟨gb251, 2, none⟩) (Kd.R_far (p := ⟨gb251, 1, none⟩) (Kd.R_far (p := ⟨gb251, 0, none⟩) (Kd.R_types HO_270002.out BK251.out (by decide)) (fun _ hk => hk.2) (.int .i64 x270000_1)) (fun _ hk => hk.2) (.int .i64 x270001_1)) (fun _ hk => hk.2) (.slice Ao82 x270002_1.length co82)) (fun _ hk => hk.1), by (with_reducible repeat (first | apply Kd.R_alloc | apply Kd.R_drewN | apply Kd.R_drew)); exact Kd.R_mono (Kd.R_far (p := ⟨gb251, 2, none⟩) (Kd.R_far (p := ⟨gb251, 1, none⟩) (Kd.R_far (p := ⟨gb251, 0, none⟩) (Kd.R_types HO_15.out BK251.out (by decide)) (fun _ hk => hk.2) (.int .i64 x270000_1)) (fun _ hk => hk.2) (.int .i64 x270001_1)) (fun _ hk => hk.2) (.slice Ao82 x270002_1.length co82)) (fun _ hk => hk.1), by repeat (first | (with_reducible first | exact HB.out | apply bwA | apply bwN | apply bw1 | refine bwS ?_ GE251.out | refine bwS ?_ GE252.out | refine bwS ?_ GE269.out) | exact HB.out), by repeat (first | (with_reducible first | exact HK.out | apply Kept.alloc | apply Kept.drewN | apply Kept.drew | refine Kept.setCell ?_ (.inr GW251.out) _ | refine Kept.setCell ?_ (.inr GW252.out) _ | refine Kept.setCell ?_ (.inr GW269.out) _) | exact HK.out)⟩
      ·rw [if_neg c75] at H
       have c75b0 : (x16_1 == (t253.length : Int)) = false := beq_eq_false_iff_ne.mpr c75
       have c75b1 : (x16_1 != (t253.length : Int)) = true := bne_iff_ne.mpr c75
       simp only [Option.some.injEq, Prod.mk.injEq] at H
       obtain ⟨rfl, rfl, rfl, rfl, rfl⟩ := H
       obtain ⟨Ao83, co83, eo83⟩ := Kd.R_slice HO_14.out
       subst eo83
       have hnb84 := NB252_251.out
       have hnc84 := NB251_252.out
       have hnb85 := NB252_269.out
       have hnc85 := NB269_252.out
       have hcz86_0 : wr.cell? ⟨gb252, 0, none⟩ = some (.int .i64 0) := (bkC BK252.out 0).trans rfl
       have hcz86_1 : wr.cell? ⟨gb252, 1, none⟩ = some (.int .i64 0) := (bkC BK252.out 1).trans rfl
       have hcz86_2 : wr.cell? ⟨gb252, 2, none⟩ = some (.slice none 0 0) := (bkC BK252.out 2).trans rfl
       have hfz86_0 := bkF BK252.out 0
       have hfz86_1 := bkF BK252.out 1
       have hfz86_2 := bkF BK252.out 2
       have hnb87 := NB251_269.out
       have hnc87 := NB269_251.out
       have hcz88_0 : wr.cell? ⟨gb251, 0, none⟩ = some (.int .i64 x252000_1) := (bkC BK251.out 0).trans rfl
       have hcz88_1 : wr.cell? ⟨gb251, 1, none⟩ = some (.int .i64 x252001_1) := (bkC BK251.out 1).trans rfl
       have hcz88_2 : wr.cell? ⟨gb251, 2, none⟩ = some (.slice none 0 0) := (bkC BK251.out 2).trans rfl
       have hfz88_0 := bkF BK251.out 0
       have hfz88_1 := bkF BK251.out 1
       have hfz88_2 := bkF BK251.out 2
       go_wp2
       refine bodyPost_ret (results_ctt rfl _ _ gb251 53 #[.int .i64 0, .int .i64 0, .slice none 0 0] (0, 0) _ rfl (by (with_reducible repeat (first | refine bkN ?_ _ | refine bkD ?_ | refine bkA ?_ _)); refine blk_put (cs := #[.int .i64 0, .int .i64 0, .slice none 0 0]) ?_ 2 _ rfl; (with_reducible repeat (first | refine bkN ?_ _ | refine bkD ?_ | refine bkA ?_ _)); refine blk_put (cs := #[.int .i64 0, .int .i64 x252001_1, .slice none 0 0]) ?_ 1 _ rfl; (with_reducible repeat (first | refine bkN ?_ _ | refine bkD ?_ | refine bkA ?_ _)); refine blk_put (cs := #[.int .i64 x252000_1, .int .i64 x252001_1, .slice none 0 0]) ?_ 0 _ rfl; (with_reducible repeat (first | refine bkN ?_ _ | refine bkD ?_ | refine bkA ?_ _)); exact BK251.out) Tryz.underlying53 rfl (by kernel_rfl)) rfl ?_
       exact ⟨_, _, by first | rfl | (simp [errW_none, errW_some] <;> rfl) | (simp [*, errW_none, errW_some] <;> rfl), by first | exact Kd.R_nil _ _ _ _ _ | exact Kd.N_nil _ _ _ _ _ | exact Kd.V_nil _ _ _ _ _ | exact Kd.Q_nil _ _ _ _ _ | exact Kd.S_nil _ _ _ _ _, by first | exact Kd.R_nil _ _ _ _ _ | exact Kd.N_nil _ _ _ _ _ | exact Kd.V_nil _ _ _ _ _ | exact Kd.Q_nil _ _ _ _ _ | exact Kd.S_nil _ _ _ _ _, by repeat (first | (with_reducible first | exact HB.out | apply bwA | apply bwN | apply bw1 | refine bwS ?_ GE251.out | refine bwS ?_ GE252.out | refine bwS ?_ GE269.out) | exact HB.out), by repeat (first | (with_reducible first | exact HK.out | apply Kept.alloc | apply Kept.drewN | apply Kept.drew | refine Kept.setCell ?_ (.inr GW251.out) _ | refine Kept.setCell ?_ (.inr GW252.out) _ | refine Kept.setCell ?_ (.inr GW269.out) _) | exact HK.out)⟩
  ·rw [if_neg c5] at H
   have c5b0 : (t260 == 0) = false := beq_eq_false_iff_ne.mpr c5
   have c5b1 : (t260 != 0) = true := bne_iff_ne.mpr c5
   simp only [Option.some.injEq, Prod.mk.injEq] at H
   obtain ⟨rfl, rfl, rfl, rfl, rfl⟩ := H
   go_enter Tryz.func14, Tryz.ntmps14
   go_wp2_with (first | ((with_reducible refine gate_dst (N := 2) rfl ?_); refine box_event ?hg (N := 2) ?hd (cs := #[.int .i64 0, .int .i64 0, .slice none 0 0]) (t := 53) ?hr ?_; (case hd => rfl); (case hg => rfl); (case hr => first | (go_simp; done) | (go_simp; rfl)); intro gb251 hg w89 hbox hb; have n0_ := HO0; have n1_ := Ad.mk (Kept.below (S := (fun k_ => P0_ k_)) (by repeat (first | (with_reducible first | exact HK.out | apply Kept.alloc | apply Kept.drewN | apply Kept.drew) | exact HK.out)) hb); have n2_ := Ad.mk (below_step (by repeat (first | (with_reducible first | exact HB.out | apply bwA | apply bwN | apply bw1) | exact HB.out)) hb); have n3_ := Ad.mk (hbox); have n4_ := Ad.mk ((by rw [hg]; exact (by first | exact HK.out.1 | exact (show Kept w _ (fun k_ => P0_ k_) from by repeat (first | (with_reducible first | exact HK.out | apply Kept.alloc | apply Kept.drewN | apply Kept.drew) | exact HK.out)).1) : w.heap.size ≤ gb251)); have n5_ := Ad.mk ((by rw [hg]; exact (below_size (by repeat (first | (with_reducible first | exact HB.out | apply bwA | apply bwN | apply bw1) | exact HB.out))) : w0.heap.size ≤ gb251)); clear HO0; clear HK; clear HB; have HO0 := n0_; have HK := n1_; have HB := n2_; have BK251 := n3_; have GW251 := n4_; have GE251 := n5_; clear n0_ n1_ n2_ n3_ n4_ n5_; clear hb hbox hg) | ((with_reducible refine gate_dst (N := 5) rfl ?_); refine box_event ?hg (N := 5) ?hd (cs := #[.int .i64 0, .int .i64 0, .slice none 0 0]) (t := 53) ?hr ?_; (case hd => rfl); (case hg => rfl); (case hr => first | (go_simp; done) | (go_simp; rfl)); intro gb252 hg w90 hbox hb; have n0_ := HO0; have n1_ := Ad.mk (blk_below (g := gb251) (o := .cells #[.int .i64 0, .int .i64 0, .slice none 0 0] 53 (0, 0)) (by (with_reducible repeat (first | refine bkN ?_ _ | refine bkD ?_ | refine bkA ?_ _)); exact BK251.out) hb); have n2_ := Ad.mk (Kept.below (S := (fun k_ => P0_ k_)) (by repeat (first | (with_reducible first | exact HK.out | apply Kept.alloc | apply Kept.drewN | apply Kept.drew | refine Kept.setCell ?_ (.inr GW251.out) _) | exact HK.out)) hb); have n3_ := Ad.mk (below_step (by repeat (first | (with_reducible first | exact HB.out | apply bwA | apply bwN | apply bw1 | refine bwS ?_ GE251.out) | exact HB.out)) hb); have n4_ := Ad.mk (hbox); have n5_ := Ad.mk ((by rw [hg]; exact (by first | exact HK.out.1 | exact (show Kept w _ (fun k_ => P0_ k_) from by repeat (first | (with_reducible first | exact HK.out | apply Kept.alloc | apply Kept.drewN | apply Kept.drew | refine Kept.setCell ?_ (.inr GW251.out) _) | exact HK.out)).1) : w.heap.size ≤ gb252)); have n6_ := Ad.mk ((by rw [hg]; exact (below_size (by repeat (first | (with_reducible first | exact HB.out | apply bwA | apply bwN | apply bw1 | refine bwS ?_ GE251.out) | exact HB.out))) : w0.heap.size ≤ gb252)); have n7_ := Ad.mk ((by rw [hg]; exact Nat.ne_of_lt (blk_lt (g := gb251) (o := .cells #[.int .i64 0, .int .i64 0, .slice none 0 0] 53 (0, 0)) (by (with_reducible repeat (first | refine bkN ?_ _ | refine bkD ?_ | refine bkA ?_ _)); exact BK251.out)) : gb251 ≠ gb252)); have n8_ := Ad.mk ((by rw [hg]; exact Nat.ne_of_gt (blk_lt (g := gb251) (o := .cells #[.int .i64 0, .int .i64 0, .slice none 0 0] 53 (0, 0)) (by (with_reducible repeat (first | refine bkN ?_ _ | refine bkD ?_ | refine bkA ?_ _)); exact BK251.out)) : gb252 ≠ gb251)); clear HO0; clear BK251; clear HK; clear HB; have HO0 := n0_; have BK251 := n1_; have HK := n2_; have HB := n3_; have BK252 := n4_; have GW252 := n5_; have GE252 := n6_; have NB251_252 := n7_; have NB252_251 := n8_; clear n0_ n1_ n2_ n3_ n4_ n5_ n6_ n7_ n8_; clear hb hbox hg; have hnb91 := NB252_251.out; have hnc91 := NB251_252.out; have hcz92_0 : w90.cell? ⟨gb252, 0, none⟩ = some (.int .i64 0) := (bkC BK252.out 0).trans rfl; have hcz92_1 : w90.cell? ⟨gb252, 1, none⟩ = some (.int .i64 0) := (bkC BK252.out 1).trans rfl; have hcz92_2 : w90.cell? ⟨gb252, 2, none⟩ = some (.slice none 0 0) := (bkC BK252.out 2).trans rfl; have hfz92_0 := bkF BK252.out 0; have hfz92_1 := bkF BK252.out 1; have hfz92_2 := bkF BK252.out 2) | ((with_reducible refine gate_store (t := 53) (p := 5) rfl ?_); refine store_event (t := 53) (p := 5) (v := ?vo_w93) (w1 := (((w90.setCell ⟨gb252, 0, none⟩ (.int .i64 0)).setCell ⟨gb252, 1, none⟩ (.int .i64 0)).setCell ⟨gb252, 2, none⟩ (.slice none 0 0))) ?hg ?ho ?hn ?hr ?_; (case ho => rfl); (case hg => rfl); (case hn => rfl); (case hr => first | (go_simp; done) | (go_simp; rfl)); intro w93 hw; have n0_ := HO0; have n1_ : Ad (w93.heap[gb251]? = some (.cells #[.int .i64 0, .int .i64 0, .slice none 0 0] 53 (0, 0))) := ⟨(by rw [hw]; exact (by (with_reducible repeat (first | refine bkN ?_ _ | refine bkD ?_ | refine bkA ?_ _)); refine blk_far ?_ NB251_252.out _; (with_reducible repeat (first | refine bkN ?_ _ | refine bkD ?_ | refine bkA ?_ _)); refine blk_far ?_ NB251_252.out _; (with_reducible repeat (first | refine bkN ?_ _ | refine bkD ?_ | refine bkA ?_ _)); refine blk_far ?_ NB251_252.out _; (with_reducible repeat (first | refine bkN ?_ _ | refine bkD ?_ | refine bkA ?_ _)); exact BK251.out))⟩; have n2_ : Ad (w93.heap[gb252]? = some (.cells #[.int .i64 0, .int .i64 0, .slice none 0 0] 53 (0, 0))) := ⟨(by rw [hw]; exact (by (with_reducible repeat (first | refine bkN ?_ _ | refine bkD ?_ | refine bkA ?_ _)); refine blk_put (cs := #[.int .i64 0, .int .i64 0, .slice none 0 0]) ?_ 2 _ rfl; (with_reducible repeat (first | refine bkN ?_ _ | refine bkD ?_ | refine bkA ?_ _)); refine blk_put (cs := #[.int .i64 0, .int .i64 0, .slice none 0 0]) ?_ 1 _ rfl; (with_reducible repeat (first | refine bkN ?_ _ | refine bkD ?_ | refine bkA ?_ _)); refine blk_put (cs := #[.int .i64 0, .int .i64 0, .slice none 0 0]) ?_ 0 _ rfl; (with_reducible repeat (first | refine bkN ?_ _ | refine bkD ?_ | refine bkA ?_ _)); exact BK252.out))⟩; have n3_ : Ad (Kept w w93 (fun k_ => P0_ k_)) := ⟨(by rw [hw]; exact (by repeat (first | (with_reducible first | exact HK.out | apply Kept.alloc | apply Kept.drewN | apply Kept.drew | refine Kept.setCell ?_ (.inr GW251.out) _ | refine Kept.setCell ?_ (.inr GW252.out) _) | exact HK.out)))⟩; have n4_ : Ad (Below w0.heap.size w0 w93) := ⟨(by rw [hw]; exact (by repeat (first | (with_reducible first | exact HB.out | apply bwA | apply bwN | apply bw1 | refine bwS ?_ GE251.out | refine bwS ?_ GE252.out) | exact HB.out)))⟩; clear hw; clear HO0; clear BK251; clear BK252; clear HK; clear HB; have HO0 := n0_; have BK251 := n1_; have BK252 := n2_; have HK := n3_; have HB := n4_; clear n0_ n1_ n2_ n3_ n4_) | ((with_reducible refine gate_callee (f := 27) rfl ?_); refine goesL_ (some 26) rfl rfl Tryz.func27 (by kernel_rfl) rfl #[.slice A0 l0.length c0] rfl (by (try simp only [List.map_toArray, List.map_cons, List.map_nil]); first | done | rfl | (simp only [List.length_drop, List.length_take]; rfl)) ?_; (with_reducible refine (open_calls k _ _ l0 t253 t256 _ ?side1 ?side2 A2.out).mono ?_); (case side1 => exact Kd.C_below HO0.out.1 (by repeat (first | (with_reducible first | exact HB.out | apply bwA | apply bwN | apply bw1 | refine bwS ?_ GE251.out | refine bwS ?_ GE252.out) | exact HB.out))); (case side2 => exact HO0.out.2); rintro e w95 ⟨Ao96, co96, rfl, hle15, hC15, hb⟩; refine ⟨_, rfl, ?_⟩; have n0_ := Ad.mk (blk_below (g := gb251) (o := .cells #[.int .i64 0, .int .i64 0, .slice none 0 0] 53 (0, 0)) (by (with_reducible repeat (first | refine bkN ?_ _ | refine bkD ?_ | refine bkA ?_ _)); exact BK251.out) hb); have n1_ := Ad.mk (blk_below (g := gb252) (o := .cells #[.int .i64 0, .int .i64 0, .slice none 0 0] 53 (0, 0)) (by (with_reducible repeat (first | refine bkN ?_ _ | refine bkD ?_ | refine bkA ?_ _)); exact BK252.out) hb); have n2_ := Ad.mk (And.intro (hC15 w0 HO0.out.1) hle15); have n3_ := Ad.mk (Kept.below (S := (fun k_ => P0_ k_)) (by repeat (first | (with_reducible first | exact HK.out | apply Kept.alloc | apply Kept.drewN | apply Kept.drew | refine Kept.setCell ?_ (.inr GW251.out) _ | refine Kept.setCell ?_ (.inr GW252.out) _) | exact HK.out)) hb); have n4_ := Ad.mk (below_step (by repeat (first | (with_reducible first | exact HB.out | apply bwA | apply bwN | apply bw1 | refine bwS ?_ GE251.out | refine bwS ?_ GE252.out) | exact HB.out)) hb); clear BK251; clear BK252; clear HK; clear HB; clear HO0; have BK251 := n0_; have BK252 := n1_; have HO255 := n2_; have HK := n3_; have HB := n4_; clear n0_ n1_ n2_ n3_ n4_; (try clear hb); clear hC15 hle15) | ((with_reducible refine gate_callee (f := 28) rfl ?_); refine goesL_ (some 34) rfl rfl Tryz.func28 (by kernel_rfl) rfl #[.slice Ao96 t253.length co96] rfl (by (try simp only [List.map_toArray, List.map_cons, List.map_nil]); first | done | rfl | (simp only [List.length_drop, List.length_take]; rfl)) ?_; (with_reducible refine (r13_Get.calls k _ _ t253 t257 t258 t259 t260 _ ?side1 ?side2 A4.out).mono ?_); (case side1 => repeat (first | exact Kd.C_below HO255.out.1 (by repeat (first | (with_reducible first | exact HB.out | apply bwA | apply bwN | apply bw1 | refine bwS ?_ GE251.out | refine bwS ?_ GE252.out) | exact HB.out)) | (with_reducible refine Kd.C_alloc ?_ _) | (with_reducible refine Kd.C_drewN ?_ _) | (with_reducible refine Kd.C_drew ?_))); (case side2 => exact HO255.out.2); rintro e w97 ⟨v261, rfl, ho0, hb⟩; refine ⟨_, rfl, ?_⟩; have n0_ := HO255; have n1_ := Ad.mk (Kd.R_lower (Kd.R_newM (M := fun k_ => (P0_ k_ ∨ w.heap.size ≤ k_)) ho0 (by first | exact HK.out.1 | exact (show Kept w _ (fun k_ => P0_ k_) from by repeat (first | (with_reducible first | exact HK.out | apply Kept.alloc | apply Kept.drewN | apply Kept.drew | refine Kept.setCell ?_ (.inr GW251.out) _ | refine Kept.setCell ?_ (.inr GW252.out) _) | exact HK.out)).1) (fun k_ h_ => .inr h_)) (below_size (by repeat (first | (with_reducible first | exact HB.out | apply bwA | apply bwN | apply bw1 | refine bwS ?_ GE251.out | refine bwS ?_ GE252.out) | exact HB.out)))); have n2_ := Ad.mk (blk_below (g := gb251) (o := .cells #[.int .i64 0, .int .i64 0, .slice none 0 0] 53 (0, 0)) (by (with_reducible repeat (first | refine bkN ?_ _ | refine bkD ?_ | refine bkA ?_ _)); exact BK251.out) hb); have n3_ := Ad.mk (blk_below (g := gb252) (o := .cells #[.int .i64 0, .int .i64 0, .slice none 0 0] 53 (0, 0)) (by (with_reducible repeat (first | refine bkN ?_ _ | refine bkD ?_ | refine bkA ?_ _)); exact BK252.out) hb); have n4_ := Ad.mk (Kept.below (S := (fun k_ => P0_ k_)) (by repeat (first | (with_reducible first | exact HK.out | apply Kept.alloc | apply Kept.drewN | apply Kept.drew | refine Kept.setCell ?_ (.inr GW251.out) _ | refine Kept.setCell ?_ (.inr GW252.out) _) | exact HK.out)) hb); have n5_ := Ad.mk (below_step (by repeat (first | (with_reducible first | exact HB.out | apply bwA | apply bwN | apply bw1 | refine bwS ?_ GE251.out | refine bwS ?_ GE252.out) | exact HB.out)) hb); clear HO255; clear BK251; clear BK252; clear HK; clear HB; have HO255 := n0_; have HO262 := n1_; have BK251 := n2_; have BK252 := n3_; have HK := n4_; have HB := n5_; clear n0_ n1_ n2_ n3_ n4_ n5_; (try clear hb); (try clear hb2); (try clear hk); (try clear hi); (try clear ho0); have hcz98_0 : w97.cell? ⟨gb252, 0, none⟩ = some (.int .i64 0) := (bkC BK252.out 0).trans rfl; have hcz98_1 : w97.cell? ⟨gb252, 1, none⟩ = some (.int .i64 0) := (bkC BK252.out 1).trans rfl; have hcz98_2 : w97.cell? ⟨gb252, 2, none⟩ = some (.slice none 0 0) := (bkC BK252.out 2).trans rfl; have hfz98_0 := bkF BK252.out 0; have hfz98_1 := bkF BK252.out 1; have hfz98_2 := bkF BK252.out 2; have hcz99_0 : w97.cell? ⟨gb251, 0, none⟩ = some (.int .i64 0) := (bkC BK251.out 0).trans rfl; have hcz99_1 : w97.cell? ⟨gb251, 1, none⟩ = some (.int .i64 0) := (bkC BK251.out 1).trans rfl; have hcz99_2 : w97.cell? ⟨gb251, 2, none⟩ = some (.slice none 0 0) := (bkC BK251.out 2).trans rfl; have hfz99_0 := bkF BK251.out 0; have hfz99_1 := bkF BK251.out 1; have hfz99_2 := bkF BK251.out 2))
   refine bodyPost_ret (results_ctt rfl _ _ gb251 53 #[.int .i64 0, .int .i64 0, .slice none 0 0] (0, 0) _ rfl (by (with_reducible repeat (first | refine bkN ?_ _ | refine bkD ?_ | refine bkA ?_ _)); refine blk_put (cs := #[.int .i64 0, .int .i64 0, .slice none 0 0]) ?_ 2 _ rfl; (with_reducible repeat (first | refine bkN ?_ _ | refine bkD ?_ | refine bkA ?_ _)); refine blk_put (cs := #[.int .i64 0, .int .i64 0, .slice none 0 0]) ?_ 1 _ rfl; (with_reducible repeat (first | refine bkN ?_ _ | refine bkD ?_ | refine bkA ?_ _)); refine blk_put (cs := #[.int .i64 0, .int .i64 0, .slice none 0 0]) ?_ 0 _ rfl; (with_reducible repeat (first | refine bkN ?_ _ | refine bkD ?_ | refine bkA ?_ _)); exact BK251.out) Tryz.underlying53 rfl (by kernel_rfl)) rfl ?_
   exact ⟨_, _, by first | rfl | (simp [errW_none, errW_some] <;> rfl) | (simp [*, errW_none, errW_some] <;> rfl), by first | exact Kd.R_nil _ _ _ _ _ | exact Kd.N_nil _ _ _ _ _ | exact Kd.V_nil _ _ _ _ _ | exact Kd.Q_nil _ _ _ _ _ | exact Kd.S_nil _ _ _ _ _, by first | exact Kd.R_nil _ _ _ _ _ | exact Kd.N_nil _ _ _ _ _ | exact Kd.V_nil _ _ _ _ _ | exact Kd.Q_nil _ _ _ _ _ | exact Kd.S_nil _ _ _ _ _, by repeat (first | (with_reducible first | exact HB.out | apply bwA | apply bwN | apply bw1 | refine bwS ?_ GE251.out | refine bwS ?_ GE252.out) | exact HB.out), by repeat (first | (with_reducible first | exact HK.out | apply Kept.alloc | apply Kept.drewN | apply Kept.drew | refine Kept.setCell ?_ (.inr GW251.out) _ | refine Kept.setCell ?_ (.inr GW252.out) _) | exact HK.out)⟩
 ·rw [if_neg c3] at H
  have c3b0 : (t256 == 0) = false := beq_eq_false_iff_ne.mpr c3
  have c3b1 : (t256 != 0) = true := bne_iff_ne.mpr c3
  simp only [Option.some.injEq, Prod.mk.injEq] at H
  obtain ⟨rfl, rfl, rfl, rfl, rfl⟩ := H
  go_enter Tryz.func14, Tryz.ntmps14
  go_wp2_with (first | ((with_reducible refine gate_dst (N := 2) rfl ?_); refine box_event ?hg (N := 2) ?hd (cs := #[.int .i64 0, .int .i64 0, .slice none 0 0]) (t := 53) ?hr ?_; (case hd => rfl); (case hg => rfl); (case hr => first | (go_simp; done) | (go_simp; rfl)); intro gb251 hg w100 hbox hb; have n0_ := HO0; have n1_ := Ad.mk (Kept.below (S := (fun k_ => P0_ k_)) (by repeat (first | (with_reducible first | exact HK.out | apply Kept.alloc | apply Kept.drewN | apply Kept.drew) | exact HK.out)) hb); have n2_ := Ad.mk (below_step (by repeat (first | (with_reducible first | exact HB.out | apply bwA | apply bwN | apply bw1) | exact HB.out)) hb); have n3_ := Ad.mk (hbox); have n4_ := Ad.mk ((by rw [hg]; exact (by first | exact HK.out.1 | exact (show Kept w _ (fun k_ => P0_ k_) from by repeat (first | (with_reducible first | exact HK.out | apply Kept.alloc | apply Kept.drewN | apply Kept.drew) | exact HK.out)).1) : w.heap.size ≤ gb251)); have n5_ := Ad.mk ((by rw [hg]; exact (below_size (by repeat (first | (with_reducible first | exact HB.out | apply bwA | apply bwN | apply bw1) | exact HB.out))) : w0.heap.size ≤ gb251)); clear HO0; clear HK; clear HB; have HO0 := n0_; have HK := n1_; have HB := n2_; have BK251 := n3_; have GW251 := n4_; have GE251 := n5_; clear n0_ n1_ n2_ n3_ n4_ n5_; clear hb hbox hg) | ((with_reducible refine gate_dst (N := 5) rfl ?_); refine box_event ?hg (N := 5) ?hd (cs := #[.int .i64 0, .int .i64 0, .slice none 0 0]) (t := 53) ?hr ?_; (case hd => rfl); (case hg => rfl); (case hr => first | (go_simp; done) | (go_simp; rfl)); intro gb252 hg w101 hbox hb; have n0_ := HO0; have n1_ := Ad.mk (blk_below (g := gb251) (o := .cells #[.int .i64 0, .int .i64 0, .slice none 0 0] 53 (0, 0)) (by (with_reducible repeat (first | refine bkN ?_ _ | refine bkD ?_ | refine bkA ?_ _)); exact BK251.out) hb); have n2_ := Ad.mk (Kept.below (S := (fun k_ => P0_ k_)) (by repeat (first | (with_reducible first | exact HK.out | apply Kept.alloc | apply Kept.drewN | apply Kept.drew | refine Kept.setCell ?_ (.inr GW251.out) _) | exact HK.out)) hb); have n3_ := Ad.mk (below_step (by repeat (first | (with_reducible first | exact HB.out | apply bwA | apply bwN | apply bw1 | refine bwS ?_ GE251.out) | exact HB.out)) hb); have n4_ := Ad.mk (hbox); have n5_ := Ad.mk ((by rw [hg]; exact (by first | exact HK.out.1 | exact (show Kept w _ (fun k_ => P0_ k_) from by repeat (first | (with_reducible first | exact HK.out | apply Kept.alloc | apply Kept.drewN | apply Kept.drew | refine Kept.setCell ?_ (.inr GW251.out) _) | exact HK.out)).1) : w.heap.size ≤ gb252)); have n6_ := Ad.mk ((by rw [hg]; exact (below_size (by repeat (first | (with_reducible first | exact HB.out | apply bwA | apply bwN | apply bw1 | refine bwS ?_ GE251.out) | exact HB.out))) : w0.heap.size ≤ gb252)); have n7_ := Ad.mk ((by rw [hg]; exact Nat.ne_of_lt (blk_lt (g := gb251) (o := .cells #[.int .i64 0, .int .i64 0, .slice none 0 0] 53 (0, 0)) (by (with_reducible repeat (first | refine bkN ?_ _ | refine bkD ?_ | refine bkA ?_ _)); exact BK251.out)) : gb251 ≠ gb252)); have n8_ := Ad.mk ((by rw [hg]; exact Nat.ne_of_gt (blk_lt (g := gb251) (o := .cells #[.int .i64 0, .int .i64 0, .slice none 0 0] 53 (0, 0)) (by (with_reducible repeat (first | refine bkN ?_ _ | refine bkD ?_ | refine bkA ?_ _)); exact BK251.out)) : gb252 ≠ gb251)); clear HO0; clear BK251; clear HK; clear HB; have HO0 := n0_; have BK251 := n1_; have HK := n2_; have HB := n3_; have BK252 := n4_; have GW252 := n5_; have GE252 := n6_; have NB251_252 := n7_; have NB252_251 := n8_; clear n0_ n1_ n2_ n3_ n4_ n5_ n6_ n7_ n8_; clear hb hbox hg; have hnb102 := NB252_251.out; have hnc102 := NB251_252.out; have hcz103_0 : w101.cell? ⟨gb252, 0, none⟩ = some (.int .i64 0) := (bkC BK252.out 0).trans rfl; have hcz103_1 : w101.cell? ⟨gb252, 1, none⟩ = some (.int .i64 0) := (bkC BK252.out 1).trans rfl; have hcz103_2 : w101.cell? ⟨gb252, 2, none⟩ = some (.slice none 0 0) := (bkC BK252.out 2).trans rfl; have hfz103_0 := bkF BK252.out 0; have hfz103_1 := bkF BK252.out 1; have hfz103_2 := bkF BK252.out 2) | ((with_reducible refine gate_store (t := 53) (p := 5) rfl ?_); refine store_event (t := 53) (p := 5) (v := ?vo_w104) (w1 := (((w101.setCell ⟨gb252, 0, none⟩ (.int .i64 0)).setCell ⟨gb252, 1, none⟩ (.int .i64 0)).setCell ⟨gb252, 2, none⟩ (.slice none 0 0))) ?hg ?ho ?hn ?hr ?_; (case ho => rfl); (case hg => rfl); (case hn => rfl); (case hr => first | (go_simp; done) | (go_simp; rfl)); intro w104 hw; have n0_ := HO0; have n1_ : Ad (w104.heap[gb251]? = some (.cells #[.int .i64 0, .int .i64 0, .slice none 0 0] 53 (0, 0))) := ⟨(by rw [hw]; exact (by (with_reducible repeat (first | refine bkN ?_ _ | refine bkD ?_ | refine bkA ?_ _)); refine blk_far ?_ NB251_252.out _; (with_reducible repeat (first | refine bkN ?_ _ | refine bkD ?_ | refine bkA ?_ _)); refine blk_far ?_ NB251_252.out _; (with_reducible repeat (first | refine bkN ?_ _ | refine bkD ?_ | refine bkA ?_ _)); refine blk_far ?_ NB251_252.out _; (with_reducible repeat (first | refine bkN ?_ _ | refine bkD ?_ | refine bkA ?_ _)); exact BK251.out))⟩; have n2_ : Ad (w104.heap[gb252]? = some (.cells #[.int .i64 0, .int .i64 0, .slice none 0 0] 53 (0, 0))) := ⟨(by rw [hw]; exact (by (with_reducible repeat (first | refine bkN ?_ _ | refine bkD ?_ | refine bkA ?_ _)); refine blk_put (cs := #[.int .i64 0, .int .i64 0, .slice none 0 0]) ?_ 2 _ rfl; (with_reducible repeat (first | refine bkN ?_ _ | refine bkD ?_ | refine bkA ?_ _)); refine blk_put (cs := #[.int .i64 0, .int .i64 0, .slice none 0 0]) ?_ 1 _ rfl; (with_reducible repeat (first | refine bkN ?_ _ | refine bkD ?_ | refine bkA ?_ _)); refine blk_put (cs := #[.int .i64 0, .int .i64 0, .slice none 0 0]) ?_ 0 _ rfl; (with_reducible repeat (first | refine bkN ?_ _ | refine bkD ?_ | refine bkA ?_ _)); exact BK252.out))⟩; have n3_ : Ad (Kept w w104 (fun k_ => P0_ k_)) := ⟨(by rw [hw]; exact (by repeat (first | (with_reducible first | exact HK.out | apply Kept.alloc | apply Kept.drewN | apply Kept.drew | refine Kept.setCell ?_ (.inr GW251.out) _ | refine Kept.setCell ?_ (.inr GW252.out) _) | exact HK.out)))⟩; have n4_ : Ad (Below w0.heap.size w0 w104) := ⟨(by rw [hw]; exact (by repeat (first | (with_reducible first | exact HB.out | apply bwA | apply bwN | apply bw1 | refine bwS ?_ GE251.out | refine bwS ?_ GE252.out) | exact HB.out)))⟩; clear hw; clear HO0; clear BK251; clear BK252; clear HK; clear HB; have HO0 := n0_; have BK251 := n1_; have BK252 := n2_; have HK := n3_; have HB := n4_; clear n0_ n1_ n2_ n3_ n4_) | ((with_reducible refine gate_callee (f := 27) rfl ?_); refine goesL_ (some 26) rfl rfl Tryz.func27 (by kernel_rfl) rfl #[.slice A0 l0.length c0] rfl (by (try simp only [List.map_toArray, List.map_cons, List.map_nil]); first | done | rfl | (simp only [List.length_drop, List.length_take]; rfl)) ?_; (with_reducible refine (open_calls k _ _ l0 t253 t256 _ ?side1 ?side2 A2.out).mono ?_); (case side1 => exact Kd.C_below HO0.out.1 (by repeat (first | (with_reducible first | exact HB.out | apply bwA | apply bwN | apply bw1 | refine bwS ?_ GE251.out | refine bwS ?_ GE252.out) | exact HB.out))); (case side2 => exact HO0.out.2); rintro e w106 ⟨AoX, coX, rfl, hle15, hC15, hb⟩; refine ⟨_, rfl, ?_⟩; have n0_ := Ad.mk (blk_below (g := gb251) (o := .cells #[.int .i64 0, .int .i64 0, .slice none 0 0] 53 (0, 0)) (by (with_reducible repeat (first | refine bkN ?_ _ | refine bkD ?_ | refine bkA ?_ _)); exact BK251.out) hb); have n1_ := Ad.mk (blk_below (g := gb252) (o := .cells #[.int .i64 0, .int .i64 0, .slice none 0 0] 53 (0, 0)) (by (with_reducible repeat (first | refine bkN ?_ _ | refine bkD ?_ | refine bkA ?_ _)); exact BK252.out) hb); have n2_ := Ad.mk (And.intro (hC15 w0 HO0.out.1) hle15); have n3_ := Ad.mk (Kept.below (S := (fun k_ => P0_ k_)) (by repeat (first | (with_reducible first | exact HK.out | apply Kept.alloc | apply Kept.drewN | apply Kept.drew | refine Kept.setCell ?_ (.inr GW251.out) _ | refine Kept.setCell ?_ (.inr GW252.out) _) | exact HK.out)) hb); have n4_ := Ad.mk (below_step (by repeat (first | (with_reducible first | exact HB.out | apply bwA | apply bwN | apply bw1 | refine bwS ?_ GE251.out | refine bwS ?_ GE252.out) | exact HB.out)) hb); clear BK251; clear BK252; clear HK; clear HB; clear HO0; have BK251 := n0_; have BK252 := n1_; have HO255 := n2_; have HK := n3_; have HB := n4_; clear n0_ n1_ n2_ n3_ n4_; (try clear hb); clear hC15 hle15; have hcz107_0 : w106.cell? ⟨gb252, 0, none⟩ = some (.int .i64 0) := (bkC BK252.out 0).trans rfl; have hcz107_1 : w106.cell? ⟨gb252, 1, none⟩ = some (.int .i64 0) := (bkC BK252.out 1).trans rfl; have hcz107_2 : w106.cell? ⟨gb252, 2, none⟩ = some (.slice none 0 0) := (bkC BK252.out 2).trans rfl; have hfz107_0 := bkF BK252.out 0; have hfz107_1 := bkF BK252.out 1; have hfz107_2 := bkF BK252.out 2; have hcz108_0 : w106.cell? ⟨gb251, 0, none⟩ = some (.int .i64 0) := (bkC BK251.out 0).trans rfl; have hcz108_1 : w106.cell? ⟨gb251, 1, none⟩ = some (.int .i64 0) := (bkC BK251.out 1).trans rfl; have hcz108_2 : w106.cell? ⟨gb251, 2, none⟩ = some (.slice none 0 0) := (bkC BK251.out 2).trans rfl; have hfz108_0 := bkF BK251.out 0; have hfz108_1 := bkF BK251.out 1; have hfz108_2 := bkF BK251.out 2))
  refine bodyPost_ret (results_ctt rfl _ _ gb251 53 #[.int .i64 0, .int .i64 0, .slice none 0 0] (0, 0) _ rfl (by (with_reducible repeat (first | refine bkN ?_ _ | refine bkD ?_ | refine bkA ?_ _)); refine blk_put (cs := #[.int .i64 0, .int .i64 0, .slice none 0 0]) ?_ 2 _ rfl; (with_reducible repeat (first | refine bkN ?_ _ | refine bkD ?_ | refine bkA ?_ _)); refine blk_put (cs := #[.int .i64 0, .int .i64 0, .slice none 0 0]) ?_ 1 _ rfl; (with_reducible repeat (first | refine bkN ?_ _ | refine bkD ?_ | refine bkA ?_ _)); refine blk_put (cs := #[.int .i64 0, .int .i64 0, .slice none 0 0]) ?_ 0 _ rfl; (with_reducible repeat (first | refine bkN ?_ _ | refine bkD ?_ | refine bkA ?_ _)); exact BK251.out) Tryz.underlying53 rfl (by kernel_rfl)) rfl ?_
  exact ⟨_, _, by first | rfl | (simp [errW_none, errW_some] <;> rfl) | (simp [*, errW_none, errW_some] <;> rfl), by first | exact Kd.R_nil _ _ _ _ _ | exact Kd.N_nil _ _ _ _ _ | exact Kd.V_nil _ _ _ _ _ | exact Kd.Q_nil _ _ _ _ _ | exact Kd.S_nil _ _ _ _ _, by first | exact Kd.R_nil _ _ _ _ _ | exact Kd.N_nil _ _ _ _ _ | exact Kd.V_nil _ _ _ _ _ | exact Kd.Q_nil _ _ _ _ _ | exact Kd.S_nil _ _ _ _ _, by repeat (first | (with_reducible first | exact HB.out | apply bwA | apply bwN | apply bw1 | refine bwS ?_ GE251.out | refine bwS ?_ GE252.out) | exact HB.out), by repeat (first | (with_reducible first | exact HK.out | apply Kept.alloc | apply Kept.drewN | apply Kept.drew | refine Kept.setCell ?_ (.inr GW251.out) _ | refine Kept.setCell ?_ (.inr GW252.out) _) | exact HK.out)⟩
end Go.Proofs.YthnndjlccepebaaGreatDoor.PHeavy
