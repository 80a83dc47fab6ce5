/- Contracts of the reference functions, fourth part (after the print). -/
import Derived.Test.YthnndjlccepebaaGreatDoorP1
import Derived.Test.YthnndjlccepebaaGreatDoorP2
import Derived.Test.YthnndjlccepebaaGreatDoorP3
set_option linter.unusedVariables false
set_option linter.unusedSimpArgs false
namespace Go.Proofs.YthnndjlccepebaaGreatDoor.PHeavy
open Go.RowKit Go.Proofs.YthnndjlccepebaaGreatDoorW.PrintWords Go.Proofs.YthnndjlccepebaaGreatDoorW.PrintLast

mutual
def r09_Paste.l0 : Nat → List Int → Int → Int → Int → List Int → Int → Int → Int → Int → Option (Int × Int × List Int × Int)
 | 0, _, _, _, _, _, _, _, _, _ => none
 | k + 1, x2, x9, x236000, x236001, x236002, x237000, x237001, x237002, x237003 => if x9 < (x2.length : Int) then (if 0 ≤ x9 then ((r04_May.f (rd x2 x9)).bind fun t241 => (if t241 = true then (r09_Paste.l0 k x2 (wrap64 (x9 + 1)) x236000 x236001 x236002 x237000 x237001 x237002 x237003) else (some (x236000, x236001, x236002, 7)))) else (none)) else ((some (([] : List Int) : List Int)).bind fun y242 => (if y242.length + x236002.length < 17592186044416 then (r09_Paste.l1 k x2 0 x237001 x236000 x236001 x236002 x237000 x237001 x237002 x237003 x236000 x236001 (y242 ++ x236002)) else (none)))
def r09_Paste.l1 : Nat → List Int → Int → Int → Int → Int → List Int → Int → Int → Int → Int → Int → Int → List Int → Option (Int × Int × List Int × Int)
 | 0, _, _, _, _, _, _, _, _, _, _, _, _, _ => none
 | k + 1, x2, x11, x12, x236000, x236001, x236002, x237000, x237001, x237002, x237003, x249000, x249001, x249002 => if x12 ≤ x237003 then (r09_Paste.l2 k x2 x11 x12 x237000 x236000 x236001 x236002 x237000 x237001 x237002 x237003 x249000 x249001 x249002) else (some (x249000, x249001, x249002, 0))
def r09_Paste.l2 : Nat → List Int → Int → Int → Int → Int → Int → List Int → Int → Int → Int → Int → Int → Int → List Int → Option (Int × Int × List Int × Int)
 | 0, _, _, _, _, _, _, _, _, _, _, _, _, _, _ => none
 | k + 1, x2, x11, x12, x13, x236000, x236001, x236002, x237000, x237001, x237002, x237003, x249000, x249001, x249002 => if x13 ≤ x237002 then (if 0 ≤ x11 then (if x11 < (x2.length : Int) then (if 0 ≤ (wrap64 ((wrap64 (x12 * x236000)) + x13)) then (if (wrap64 ((wrap64 (x12 * x236000)) + x13)) < (x249002.length : Int) then (r09_Paste.l2 k x2 (wrap64 (x11 + 1)) x12 (wrap64 (x13 + 1)) x236000 x236001 x236002 x237000 x237001 x237002 x237003 x249000 x249001 (x249002.set ((wrap64 ((wrap64 (x12 * x236000)) + x13)) : Int).toNat (rd x2 x11))) else (none)) else (none)) else (none)) else (none)) else (r09_Paste.l1 k x2 x11 (wrap64 (x12 + 1)) x236000 x236001 x236002 x237000 x237001 x237002 x237003 x249000 x249001 x249002)
end
def r09_Paste.f (k : Nat) (a0_0 : Int) (a0_1 : Int) (l0_2 : List Int) (a1_0 : Int) (a1_1 : Int) (a1_2 : Int) (a1_3 : Int) (l2 : List Int) : Option (Int × Int × List Int × Int) := (r07_Within.f k a1_0 a1_1 a1_2 a1_3 a0_0 a0_1).bind fun t238 => (if t238 = 0 then ((r07_Area.f a1_0 a1_1 a1_2 a1_3).bind fun t239 => (if (l2.length : Int) = t239 then (r09_Paste.l0 k l2 0 a0_0 a0_1 l0_2 a1_0 a1_1 a1_2 a1_3) else (some (a0_0, a0_1, l0_2, 6)))) else (some (a0_0, a0_1, l0_2, t238)))
def r09_Paste.T11 : Bool × List (List Nat × List Nat) := (true, [([], []), ([0], [0]), ([], []), ([2], [2]), ([], []), ([], []), ([5], [5]), ([4, 6], [4, 6]), ([1, 3, 7], [1, 3, 7]), ([], []), ([9, 8, 7, 0, 1, 2, 3, 4, 5, 6, 7, 8, 9], [8, 9])])
def r09_Paste.B11 : List Nat := [0, 1, 0, 4, 0, 0, 32, 112, 255, 0, 1023]
theorem r09_Paste.tab11 : rtab .any (opsOf Tryz.f33 11) = r09_Paste.T11 := by kernel_rfl
theorem r09_Paste.bits11 : waitsOk r09_Paste.T11.2 r09_Paste.B11 = true := by kernel_rfl
def r09_Paste.T19 : Bool × List (List Nat × List Nat) := (true, [([], []), ([0], [0]), ([], []), ([], []), ([3], [3]), ([2, 4], [2, 4]), ([], []), ([5, 6], [5, 6]), ([], []), ([], []), ([8, 9], [8, 9]), ([10], [10]), ([1, 7, 0, 1, 2, 3, 4, 5, 6, 7, 8, 9, 10, 11], [1, 7]), ([12, 11, 0, 1, 2, 3, 4, 5, 6, 7, 8, 9, 10, 11], [11, 12])])
def r09_Paste.B19 : List Nat := [0, 1, 0, 0, 8, 28, 0, 124, 0, 0, 768, 1792, 4095, 8191]
theorem r09_Paste.tab19 : rtab .any (opsOf Tryz.f33 19) = r09_Paste.T19 := by kernel_rfl
theorem r09_Paste.bits19 : waitsOk r09_Paste.T19.2 r09_Paste.B19 = true := by kernel_rfl
set_option maxHeartbeats 8000000 in
set_option maxRecDepth 100000 in
theorem r09_Paste.calls (k : Nat) (a0_0 : Int) (a0_1 : Int) (P0_2_ : Nat → Prop) (u9000_ : Value) (l0_2 : List Int) (a1_0 : Int) (a1_1 : Int) (a1_2 : Int) (a1_3 : Int) (A2 : Option Addr) (c2 : Nat) (l2 : List Int) (r1 : Int) (r2 : Int) (r3 : List Int) (r4 : Int) (w0 w : World) (hB : Below w0.heap.size w0 w) (ho0_2 : Kd.R (Kd.int .i64) 2 w w0.heap.size P0_2_ u9000_ l0_2) (hr2 : ∀ W_, Kept w W_ (fun k_ => P0_2_ k_) → Kd.C (Kd.int .i64) W_ A2 l2.length l2) (hc2 : l2.length ≤ c2) (h : r09_Paste.f k a0_0 a0_1 l0_2 a1_0 a1_1 a1_2 a1_3 l2 = some (r1, r2, r3, r4)) :
  Calls Tryz.prog 33 #[.agg #[.int .i64 a0_0, .int .i64 a0_1, u9000_], .agg #[.int .i64 a1_0, .int .i64 a1_1, .int .i64 a1_2, .int .i64 a1_3], .slice A2 l2.length c2] w fun e w' => ∃ v2_ : Value, e = .returned (.tuple #[.agg #[.int .i64 r1, .int .i64 r2, v2_], .int .i64 r4]) ∧ Kd.R (Kd.int .i64) 2 w' w0.heap.size (fun k_ => (P0_2_ k_ ∨ w.heap.size ≤ k_)) v2_ r3 ∧ Below w0.heap.size w0 w' ∧ Kept w w' (fun k_ => P0_2_ k_) := by
 have hu53 := Tryz.underlying53
 have hu23 := Tryz.underlying23
 have HO0_2 := Ad.mk (show Kd.R (Kd.int .i64) 2 w w0.heap.size (fun k_ => (P0_2_ k_ ∨ w.heap.size ≤ k_)) u9000_ l0_2 from Kd.R_mono ho0_2 (fun k_ hk => (.inl hk)))
 have HR2 := Ad.mk hr2
 have HC2 := Ad.mk hc2
 clear hr2 hc2
 have HK := Ad.mk (Kept.refl w (fun k_ => P0_2_ k_))
 have HW0 := Ad.mk hB.size
 have HB := Ad.mk hB
 clear hB
 have H : ((r07_Within.f k a1_0 a1_1 a1_2 a1_3 a0_0 a0_1).bind fun t238 => (if t238 = 0 then ((r07_Area.f a1_0 a1_1 a1_2 a1_3).bind fun t239 => (if (l2.length : Int) = t239 then (r09_Paste.l0 k l2 0 a0_0 a0_1 l0_2 a1_0 a1_1 a1_2 a1_3) else (some (a0_0, a0_1, l0_2, 6)))) else (some (a0_0, a0_1, l0_2, t238)))) = some (r1, r2, r3, r4) := h
 clear h
 replace H := Option.bind_eq_some_iff.mp H
 obtain ⟨t238, A40, H⟩ := H
 replace H : (if t238 = 0 then ((r07_Area.f a1_0 a1_1 a1_2 a1_3).bind fun t239 => (if (l2.length : Int) = t239 then (r09_Paste.l0 k l2 0 a0_0 a0_1 l0_2 a1_0 a1_1 a1_2 a1_3) else (some (a0_0, a0_1, l0_2, 6)))) else (some (a0_0, a0_1, l0_2, t238))) = some (r1, r2, r3, r4) := H
 have A4 := Ad.mk A40
 clear A40
 by_cases c5 : t238 = 0
 ·rw [if_pos c5] at H
  have c5b0 : (t238 == 0) = true := beq_iff_eq.mpr c5
  have c5b1 : (t238 != 0) = false := bne_eq_false_iff_eq.mpr c5
  clear c5
  replace H := Option.bind_eq_some_iff.mp H
  obtain ⟨t239, A60, H⟩ := H
  replace H : (if (l2.length : Int) = t239 then (r09_Paste.l0 k l2 0 a0_0 a0_1 l0_2 a1_0 a1_1 a1_2 a1_3) else (some (a0_0, a0_1, l0_2, 6))) = some (r1, r2, r3, r4) := H
  have A6 := Ad.mk A60
  clear A60
  by_cases c7 : (l2.length : Int) = t239
  ·rw [if_pos c7] at H
   have c7b0 : ((l2.length : Int) == t239) = true := beq_iff_eq.mpr c7
   have c7b1 : ((l2.length : Int) != t239) = false := bne_eq_false_iff_eq.mpr c7
   clear c7
   have H' := Ad.mk H
   clear H
   obtain ⟨Ao8, co8, eo8⟩ := Kd.R_slice HO0_2.out
   subst eo8
   go_enter Tryz.func33, Tryz.ntmps33
   go_wp2_with (first | ((with_reducible refine gate_dst (N := 3) rfl ?_); refine box_event ?hg (N := 3) ?hd (cs := #[.int .i64 a0_0, .int .i64 a0_1, .slice Ao8 l0_2.length co8]) (t := 53) ?hr ?_; (case hd => rfl); (case hg => rfl); (case hr => first | (go_simp; done) | (go_simp; rfl)); intro gb235 hg w9 hbox hb; have n0_ := Ad.mk (Kd.R_below (by (with_reducible repeat (first | apply Kd.R_alloc | apply Kd.R_drewN | apply Kd.R_drew)); exact HO0_2.out) hb); have n1_ := Ad.mk (Kept.below (S := (fun k_ => P0_2_ k_)) (by repeat (first | (with_reducible first | exact HK.out | apply Kept.alloc | apply Kept.drewN | apply Kept.drew) | exact HK.out)) hb); have n2_ := Ad.mk (below_step (by repeat (first | (with_reducible first | exact HB.out | apply bwA | apply bwN | apply bw1) | exact HB.out)) hb); have n3_ := Ad.mk (hbox); have n4_ := Ad.mk ((by rw [hg]; exact (by first | exact HK.out.1 | exact (show Kept w _ (fun k_ => P0_2_ k_) from by repeat (first | (with_reducible first | exact HK.out | apply Kept.alloc | apply Kept.drewN | apply Kept.drew) | exact HK.out)).1) : w.heap.size ≤ gb235)); have n5_ := Ad.mk ((by rw [hg]; exact (below_size (by repeat (first | (with_reducible first | exact HB.out | apply bwA | apply bwN | apply bw1) | exact HB.out))) : w0.heap.size ≤ gb235)); clear HO0_2; clear HK; clear HB; have HO0_2 := n0_; have HK := n1_; have HB := n2_; have BK235 := n3_; have GW235 := n4_; have GE235 := n5_; clear n0_ n1_ n2_ n3_ n4_ n5_; clear hb hbox hg) | ((with_reducible refine gate_dst (N := 4) rfl ?_); refine box_event ?hg (N := 4) ?hd (cs := #[.int .i64 a1_0, .int .i64 a1_1, .int .i64 a1_2, .int .i64 a1_3]) (t := 23) ?hr ?_; (case hd => rfl); (case hg => rfl); (case hr => first | (go_simp; done) | (go_simp; rfl)); intro gb236 hg w10 hbox hb; have n0_ := Ad.mk (Kd.R_below (by (with_reducible repeat (first | apply Kd.R_alloc | apply Kd.R_drewN | apply Kd.R_drew)); exact HO0_2.out) hb); have n1_ := Ad.mk (blk_below (g := gb235) (o := .cells #[.int .i64 a0_0, .int .i64 a0_1, .slice Ao8 l0_2.length co8] 53 (0, 0)) (by (with_reducible repeat (first | refine bkN ?_ _ | refine bkD ?_ | refine bkA ?_ _)); exact BK235.out) hb); have n2_ := Ad.mk (Kept.below (S := (fun k_ => P0_2_ k_)) (by repeat (first | (with_reducible first | exact HK.out | apply Kept.alloc | apply Kept.drewN | apply Kept.drew | refine Kept.setCell ?_ (.inr GW235.out) _) | exact HK.out)) hb); have n3_ := Ad.mk (below_step (by repeat (first | (with_reducible first | exact HB.out | apply bwA | apply bwN | apply bw1 | refine bwS ?_ GE235.out) | exact HB.out)) hb); have n4_ := Ad.mk (hbox); have n5_ := Ad.mk ((by rw [hg]; exact (by first | exact HK.out.1 | exact (show Kept w _ (fun k_ => P0_2_ k_) from by repeat (first | (with_reducible first | exact HK.out | apply Kept.alloc | apply Kept.drewN | apply Kept.drew | refine Kept.setCell ?_ (.inr GW235.out) _) | exact HK.out)).1) : w.heap.size ≤ gb236)); have n6_ := Ad.mk ((by rw [hg]; exact (below_size (by repeat (first | (with_reducible first | exact HB.out | apply bwA | apply bwN | apply bw1 | refine bwS ?_ GE235.out) | exact HB.out))) : w0.heap.size ≤ gb236)); have n7_ := Ad.mk ((by rw [hg]; exact Nat.ne_of_lt (blk_lt (g := gb235) (o := .cells #[.int .i64 a0_0, .int .i64 a0_1, .slice Ao8 l0_2.length co8] 53 (0, 0)) (by (with_reducible repeat (first | refine bkN ?_ _ | refine bkD ?_ | refine bkA ?_ _)); exact BK235.out)) : gb235 ≠ gb236)); have n8_ := Ad.mk ((by rw [hg]; exact Nat.ne_of_gt (blk_lt (g := gb235) (o := .cells #[.int .i64 a0_0, .int .i64 a0_1, .slice Ao8 l0_2.length co8] 53 (0, 0)) (by (with_reducible repeat (first | refine bkN ?_ _ | refine bkD ?_ | refine bkA ?_ _)); exact BK235.out)) : gb236 ≠ gb235)); clear HO0_2; clear BK235; clear HK; clear HB; have HO0_2 := n0_; have BK235 := n1_; have HK := n2_; have HB := n3_; have BK236 := n4_; have GW236 := n5_; have GE236 := n6_; have NB235_236 := n7_; have NB236_235 := n8_; clear n0_ n1_ n2_ n3_ n4_ n5_ n6_ n7_ n8_; clear hb hbox hg) | ((with_reducible refine gate_dst (N := 6) rfl ?_); refine box_event ?hg (N := 6) ?hd (cs := #[.int .i64 0, .int .i64 0, .slice none 0 0]) (t := 53) ?hr ?_; (case hd => rfl); (case hg => rfl); (case hr => first | (go_simp; done) | (go_simp; rfl)); intro gb237 hg w11 hbox hb; have n0_ := Ad.mk (Kd.R_below (by (with_reducible repeat (first | apply Kd.R_alloc | apply Kd.R_drewN | apply Kd.R_drew)); exact HO0_2.out) hb); have n1_ := Ad.mk (blk_below (g := gb235) (o := .cells #[.int .i64 a0_0, .int .i64 a0_1, .slice Ao8 l0_2.length co8] 53 (0, 0)) (by (with_reducible repeat (first | refine bkN ?_ _ | refine bkD ?_ | refine bkA ?_ _)); exact BK235.out) hb); have n2_ := Ad.mk (blk_below (g := gb236) (o := .cells #[.int .i64 a1_0, .int .i64 a1_1, .int .i64 a1_2, .int .i64 a1_3] 23 (0, 0)) (by (with_reducible repeat (first | refine bkN ?_ _ | refine bkD ?_ | refine bkA ?_ _)); exact BK236.out) hb); have n3_ := Ad.mk (Kept.below (S := (fun k_ => P0_2_ k_)) (by repeat (first | (with_reducible first | exact HK.out | apply Kept.alloc | apply Kept.drewN | apply Kept.drew | refine Kept.setCell ?_ (.inr GW235.out) _ | refine Kept.setCell ?_ (.inr GW236.out) _) | exact HK.out)) hb); have n4_ := Ad.mk (below_step (by repeat (first | (with_reducible first | exact HB.out | apply bwA | apply bwN | apply bw1 | refine bwS ?_ GE235.out | refine bwS ?_ GE236.out) | exact HB.out)) hb); have n5_ := Ad.mk (hbox); have n6_ := Ad.mk ((by rw [hg]; exact (by first | exact HK.out.1 | exact (show Kept w _ (fun k_ => P0_2_ k_) from by repeat (first | (with_reducible first | exact HK.out | apply Kept.alloc | apply Kept.drewN | apply Kept.drew | refine Kept.setCell ?_ (.inr GW235.out) _ | refine Kept.setCell ?_ (.inr GW236.out) _) | exact HK.out)).1) : w.heap.size ≤ gb237)); have n7_ := Ad.mk ((by rw [hg]; exact (below_size (by repeat (first | (with_reducible first | exact HB.out | apply bwA | apply bwN | apply bw1 | refine bwS ?_ GE235.out | refine bwS ?_ GE236.out) | exact HB.out))) : w0.heap.size ≤ gb237)); have n8_ := Ad.mk ((by rw [hg]; exact Nat.ne_of_lt (blk_lt (g := gb235) (o := .cells #[.int .i64 a0_0, .int .i64 a0_1, .slice Ao8 l0_2.length co8] 53 (0, 0)) (by (with_reducible repeat (first | refine bkN ?_ _ | refine bkD ?_ | refine bkA ?_ _)); exact BK235.out)) : gb235 ≠ gb237)); have n9_ := Ad.mk ((by rw [hg]; exact Nat.ne_of_gt (blk_lt (g := gb235) (o := .cells #[.int .i64 a0_0, .int .i64 a0_1, .slice Ao8 l0_2.length co8] 53 (0, 0)) (by (with_reducible repeat (first | refine bkN ?_ _ | refine bkD ?_ | refine bkA ?_ _)); exact BK235.out)) : gb237 ≠ gb235)); have n10_ := Ad.mk ((by rw [hg]; exact Nat.ne_of_lt (blk_lt (g := gb236) (o := .cells #[.int .i64 a1_0, .int .i64 a1_1, .int .i64 a1_2, .int .i64 a1_3] 23 (0, 0)) (by (with_reducible repeat (first | refine bkN ?_ _ | refine bkD ?_ | refine bkA ?_ _)); exact BK236.out)) : gb236 ≠ gb237)); have n11_ := Ad.mk ((by rw [hg]; exact Nat.ne_of_gt (blk_lt (g := gb236) (o := .cells #[.int .i64 a1_0, .int .i64 a1_1, .int .i64 a1_2, .int .i64 a1_3] 23 (0, 0)) (by (with_reducible repeat (first | refine bkN ?_ _ | refine bkD ?_ | refine bkA ?_ _)); exact BK236.out)) : gb237 ≠ gb236)); clear HO0_2; clear BK235; clear BK236; clear HK; clear HB; have HO0_2 := n0_; have BK235 := n1_; have BK236 := n2_; have HK := n3_; have HB := n4_; have BK237 := n5_; have GW237 := n6_; have GE237 := n7_; have NB235_237 := n8_; have NB237_235 := n9_; have NB236_237 := n10_; have NB237_236 := n11_; clear n0_ n1_ n2_ n3_ n4_ n5_ n6_ n7_ n8_ n9_ n10_ n11_; clear hb hbox hg; have hnb12 := NB236_235.out; have hnc12 := NB235_236.out; have hnb13 := NB236_237.out; have hnc13 := NB237_236.out; have hcz14_0 : w11.cell? ⟨gb236, 0, none⟩ = some (.int .i64 a1_0) := (bkC BK236.out 0).trans rfl; have hcz14_1 : w11.cell? ⟨gb236, 1, none⟩ = some (.int .i64 a1_1) := (bkC BK236.out 1).trans rfl; have hcz14_2 : w11.cell? ⟨gb236, 2, none⟩ = some (.int .i64 a1_2) := (bkC BK236.out 2).trans rfl; have hcz14_3 : w11.cell? ⟨gb236, 3, none⟩ = some (.int .i64 a1_3) := (bkC BK236.out 3).trans rfl; have hfz14_0 := bkF BK236.out 0; have hfz14_1 := bkF BK236.out 1; have hfz14_2 := bkF BK236.out 2; have hfz14_3 := bkF BK236.out 3; have hnb15 := NB235_237.out; have hnc15 := NB237_235.out; have hcz16_0 : w11.cell? ⟨gb235, 0, none⟩ = some (.int .i64 a0_0) := (bkC BK235.out 0).trans rfl; have hcz16_1 : w11.cell? ⟨gb235, 1, none⟩ = some (.int .i64 a0_1) := (bkC BK235.out 1).trans rfl; have hcz16_2 : w11.cell? ⟨gb235, 2, none⟩ = some (.slice Ao8 l0_2.length co8) := (bkC BK235.out 2).trans rfl; have hfz16_0 := bkF BK235.out 0; have hfz16_1 := bkF BK235.out 1; have hfz16_2 := bkF BK235.out 2) | ((with_reducible refine gate_callee (f := 59) rfl ?_); refine goesL_ (some 19) rfl rfl Tryz.func59 (by kernel_rfl) rfl #[.agg #[.int .i64 a1_0, .int .i64 a1_1, .int .i64 a1_2, .int .i64 a1_3], .int .i64 a0_0, .int .i64 a0_1] rfl (by (try simp only [List.map_toArray, List.map_cons, List.map_nil]); first | done | rfl | (simp only [List.length_drop, List.length_take]; rfl)) ?_; (with_reducible refine (r07_Within.calls k a1_0 a1_1 a1_2 a1_3 a0_0 a0_1 t238 _ A4.out).mono ?_); rintro e w17 ⟨rfl, hb⟩; refine ⟨_, rfl, ?_⟩; have n0_ := Ad.mk (Kd.R_below (by (with_reducible repeat (first | apply Kd.R_alloc | apply Kd.R_drewN | apply Kd.R_drew)); exact HO0_2.out) hb); have n1_ := Ad.mk (blk_below (g := gb235) (o := .cells #[.int .i64 a0_0, .int .i64 a0_1, .slice Ao8 l0_2.length co8] 53 (0, 0)) (by (with_reducible repeat (first | refine bkN ?_ _ | refine bkD ?_ | refine bkA ?_ _)); exact BK235.out) hb); have n2_ := Ad.mk (blk_below (g := gb236) (o := .cells #[.int .i64 a1_0, .int .i64 a1_1, .int .i64 a1_2, .int .i64 a1_3] 23 (0, 0)) (by (with_reducible repeat (first | refine bkN ?_ _ | refine bkD ?_ | refine bkA ?_ _)); exact BK236.out) hb); have n3_ := Ad.mk (blk_below (g := gb237) (o := .cells #[.int .i64 0, .int .i64 0, .slice none 0 0] 53 (0, 0)) (by (with_reducible repeat (first | refine bkN ?_ _ | refine bkD ?_ | refine bkA ?_ _)); exact BK237.out) hb); have n4_ := Ad.mk (Kept.below (S := (fun k_ => P0_2_ k_)) (by repeat (first | (with_reducible first | exact HK.out | apply Kept.alloc | apply Kept.drewN | apply Kept.drew | refine Kept.setCell ?_ (.inr GW235.out) _ | refine Kept.setCell ?_ (.inr GW236.out) _ | refine Kept.setCell ?_ (.inr GW237.out) _) | exact HK.out)) hb); have n5_ := Ad.mk (below_step (by repeat (first | (with_reducible first | exact HB.out | apply bwA | apply bwN | apply bw1 | refine bwS ?_ GE235.out | refine bwS ?_ GE236.out | refine bwS ?_ GE237.out) | exact HB.out)) hb); clear HO0_2; clear BK235; clear BK236; clear BK237; clear HK; clear HB; have HO0_2 := n0_; have BK235 := n1_; have BK236 := n2_; have BK237 := n3_; have HK := n4_; have HB := n5_; clear n0_ n1_ n2_ n3_ n4_ n5_; (try clear hb); (try clear hb2); (try clear hk); (try clear hi); have hcz18_0 : w17.cell? ⟨gb236, 0, none⟩ = some (.int .i64 a1_0) := (bkC BK236.out 0).trans rfl; have hcz18_1 : w17.cell? ⟨gb236, 1, none⟩ = some (.int .i64 a1_1) := (bkC BK236.out 1).trans rfl; have hcz18_2 : w17.cell? ⟨gb236, 2, none⟩ = some (.int .i64 a1_2) := (bkC BK236.out 2).trans rfl; have hcz18_3 : w17.cell? ⟨gb236, 3, none⟩ = some (.int .i64 a1_3) := (bkC BK236.out 3).trans rfl; have hfz18_0 := bkF BK236.out 0; have hfz18_1 := bkF BK236.out 1; have hfz18_2 := bkF BK236.out 2; have hfz18_3 := bkF BK236.out 3) | ((with_reducible refine gate_callee (f := 60) rfl ?_); refine goesL_ (some 27) rfl rfl Tryz.func60 (by kernel_rfl) rfl #[.agg #[.int .i64 a1_0, .int .i64 a1_1, .int .i64 a1_2, .int .i64 a1_3]] rfl (by (try simp only [List.map_toArray, List.map_cons, List.map_nil]); first | done | rfl | (simp only [List.length_drop, List.length_take]; rfl)) ?_; (with_reducible refine (r07_Area.calls a1_0 a1_1 a1_2 a1_3 t239 _ A6.out).mono ?_); rintro e w19 ⟨rfl, hb⟩; refine ⟨_, rfl, ?_⟩; have n0_ := Ad.mk (Kd.R_below (by (with_reducible repeat (first | apply Kd.R_alloc | apply Kd.R_drewN | apply Kd.R_drew)); exact HO0_2.out) hb); have n1_ := Ad.mk (blk_below (g := gb235) (o := .cells #[.int .i64 a0_0, .int .i64 a0_1, .slice Ao8 l0_2.length co8] 53 (0, 0)) (by (with_reducible repeat (first | refine bkN ?_ _ | refine bkD ?_ | refine bkA ?_ _)); exact BK235.out) hb); have n2_ := Ad.mk (blk_below (g := gb236) (o := .cells #[.int .i64 a1_0, .int .i64 a1_1, .int .i64 a1_2, .int .i64 a1_3] 23 (0, 0)) (by (with_reducible repeat (first | refine bkN ?_ _ | refine bkD ?_ | refine bkA ?_ _)); exact BK236.out) hb); have n3_ := Ad.mk (blk_below (g := gb237) (o := .cells #[.int .i64 0, .int .i64 0, .slice none 0 0] 53 (0, 0)) (by (with_reducible repeat (first | refine bkN ?_ _ | refine bkD ?_ | refine bkA ?_ _)); exact BK237.out) hb); have n4_ := Ad.mk (Kept.below (S := (fun k_ => P0_2_ k_)) (by repeat (first | (with_reducible first | exact HK.out | apply Kept.alloc | apply Kept.drewN | apply Kept.drew | refine Kept.setCell ?_ (.inr GW235.out) _ | refine Kept.setCell ?_ (.inr GW236.out) _ | refine Kept.setCell ?_ (.inr GW237.out) _) | exact HK.out)) hb); have n5_ := Ad.mk (below_step (by repeat (first | (with_reducible first | exact HB.out | apply bwA | apply bwN | apply bw1 | refine bwS ?_ GE235.out | refine bwS ?_ GE236.out | refine bwS ?_ GE237.out) | exact HB.out)) hb); clear HO0_2; clear BK235; clear BK236; clear BK237; clear HK; clear HB; have HO0_2 := n0_; have BK235 := n1_; have BK236 := n2_; have BK237 := n3_; have HK := n4_; have HB := n5_; clear n0_ n1_ n2_ n3_ n4_ n5_; (try clear hb); (try clear hb2); (try clear hk); (try clear hi)))
   go_loopg [9] k (fun kq v9 w' => ∃ (x9_1 : Int) (x238000_1 : Int) (x238001_1 : Int), v9 = .int .i64 x9_1 ∧ Ad (r09_Paste.l0 kq l2 x9_1 a0_0 a0_1 l0_2 a1_0 a1_1 a1_2 a1_3 = some (r1, r2, r3, r4)) ∧ Ad (kq ≤ k) ∧ Ad (Kd.R (Kd.int .i64) 2 w' w0.heap.size (fun k_ => (P0_2_ k_ ∨ w.heap.size ≤ k_)) (.slice Ao8 l0_2.length co8) l0_2) ∧ Ad (w'.heap[gb235]? = some (.cells #[.int .i64 a0_0, .int .i64 a0_1, (.slice Ao8 l0_2.length co8)] 53 (0, 0))) ∧ Ad (w'.heap[gb236]? = some (.cells #[.int .i64 a1_0, .int .i64 a1_1, .int .i64 a1_2, .int .i64 a1_3] 23 (0, 0))) ∧ Ad (w'.heap[gb237]? = some (.cells #[.int .i64 x238000_1, .int .i64 x238001_1, (.slice none 0 0)] 53 (0, 0))) ∧ Ad (Kept w w' (fun k_ => P0_2_ k_)) ∧ Ad (Below w0.heap.size w0 w'))
   case atStart => exact ⟨(0), (0), (0), (by first | rfl | (simp; done) | (simp [*]; done)), H', ⟨Nat.le_refl _⟩, ⟨by (with_reducible repeat (first | apply Kd.R_alloc | apply Kd.R_drewN | apply Kd.R_drew)); exact HO0_2.out⟩, ⟨by (with_reducible repeat (first | refine bkN ?_ _ | refine bkD ?_ | refine bkA ?_ _)); exact BK235.out⟩, ⟨by (with_reducible repeat (first | refine bkN ?_ _ | refine bkD ?_ | refine bkA ?_ _)); exact BK236.out⟩, ⟨by (with_reducible repeat (first | refine bkN ?_ _ | refine bkD ?_ | refine bkA ?_ _)); exact BK237.out⟩, ⟨by repeat (first | (with_reducible first | exact HK.out | apply Kept.alloc | apply Kept.drewN | apply Kept.drew | refine Kept.setCell ?_ (.inr GW235.out) _ | refine Kept.setCell ?_ (.inr GW236.out) _ | refine Kept.setCell ?_ (.inr GW237.out) _) | exact HK.out)⟩, ⟨by repeat (first | (with_reducible first | exact HB.out | apply bwA | apply bwN | apply bw1 | refine bwS ?_ GE235.out | refine bwS ?_ GE236.out | refine bwS ?_ GE237.out) | exact HB.out)⟩⟩
   case round =>
    clear H'
    try clear c1
    try clear c2
    try clear p2
    try clear c3
    try clear c5
    try clear c5b0
    try clear c5b1
    try clear c6
    try clear c7
    try clear c7b0
    try clear c7b1
    try clear c12
    try clear c13
    try clear c15
    try clear hcz14_0
    try clear hcz14_1
    try clear hcz14_2
    try clear hcz14_3
    try clear hcz16_0
    try clear hcz16_1
    try clear hcz16_2
    try clear hcz18_0
    try clear hcz18_1
    try clear hcz18_2
    try clear hcz18_3
    try clear hfz14_0
    try clear hfz14_1
    try clear hfz14_2
    try clear hfz14_3
    try clear hfz16_0
    try clear hfz16_1
    try clear hfz16_2
    try clear hfz18_0
    try clear hfz18_1
    try clear hfz18_2
    try clear hfz18_3
    obtain ⟨x9_1, x238000_1, x238001_1, rfl, HA, HK1, HO_236002, BK235, BK236, BK237, HK, HB⟩ := hrel
    cases gk with
    | zero => exact absurd HA.out (by simp [r09_Paste.l0])
    | succ k1 =>
     have H := HA.out
     clear HA
     simp only [r09_Paste.l0] at H
     by_cases c20 : x9_1 < (l2.length : Int)
     ·rw [if_pos c20] at H
      have c20b0 : decide (x9_1 < (l2.length : Int)) = true := decide_eq_true c20
      clear c20
      by_cases c21 : 0 ≤ x9_1
      ·rw [if_pos c21] at H
       have c21b0 : decide (0 ≤ x9_1) = true := decide_eq_true c21
       clear c21
       replace H := Option.bind_eq_some_iff.mp H
       obtain ⟨t241, A220, H⟩ := H
       replace H : (if t241 = true then (r09_Paste.l0 k1 l2 (wrap64 (x9_1 + 1)) a0_0 a0_1 l0_2 a1_0 a1_1 a1_2 a1_3) else (some (a0_0, a0_1, l0_2, 7))) = some (r1, r2, r3, r4) := H
       have A22 := Ad.mk A220
       clear A220
       by_cases c23 : t241 = true
       ·subst c23
        have H1 : (r09_Paste.l0 k1 l2 (wrap64 (x9_1 + 1)) a0_0 a0_1 l0_2 a1_0 a1_1 a1_2 a1_3) = some (r1, r2, r3, r4) := by rw [if_pos rfl] at H; exact H
        clear H
        have H := H1
        clear H1
        have H' := Ad.mk H
        clear H
        have p240 : 0 ≤ (x9_1 : Int) := of_decide_eq_true (by first | (with_reducible assumption) | assumption)
        have q240 : x9_1 < (l2.length : Int) := of_decide_eq_true (by first | (with_reducible assumption) | assumption)
        obtain ⟨ad240, e240, hx240_0⟩ := Kd.at_int (Kd.C_kept_now HR2.out HK.out) x9_1 p240 q240
        cases e240
        replace p240 := eq_true p240
        replace q240 := eq_true q240
        go_wp2_with (first | ((with_reducible refine gate_callee (f := 61) rfl ?_); refine goesL_ (some 40) rfl rfl Tryz.func61 (by kernel_rfl) rfl #[.int .i64 (rd l2 x9_1)] rfl (by (try simp only [List.map_toArray, List.map_cons, List.map_nil]); first | done | rfl | (simp only [List.length_drop, List.length_take]; rfl)) ?_; (with_reducible refine (r04_May.calls (rd l2 x9_1) true _ A22.out).mono ?_); rintro e w' ⟨rfl, ⟨nd, rfl⟩⟩; refine ⟨_, rfl, ?_⟩))
        go_roundg k1
        case measure => have := HK1.out; omega
        case rel => exact ⟨(wrap64 (x9_1 + 1)), (x238000_1), (x238001_1), (by first | rfl | (simp; done) | (simp [*]; done)), H', ⟨by have := HK1.out; omega⟩, ⟨by (with_reducible repeat (first | apply Kd.R_alloc | apply Kd.R_drewN | apply Kd.R_drew)); exact HO_236002.out⟩, ⟨by (with_reducible repeat (first | refine bkN ?_ _ | refine bkD ?_ | refine bkA ?_ _)); exact BK235.out⟩, ⟨by (with_reducible repeat (first | refine bkN ?_ _ | refine bkD ?_ | refine bkA ?_ _)); exact BK236.out⟩, ⟨by (with_reducible repeat (first | refine bkN ?_ _ | refine bkD ?_ | refine bkA ?_ _)); exact BK237.out⟩, ⟨by repeat (first | (with_reducible first | exact HK.out | apply Kept.alloc | apply Kept.drewN | apply Kept.drew | refine Kept.setCell ?_ (.inr GW235.out) _ | refine Kept.setCell ?_ (.inr GW236.out) _ | refine Kept.setCell ?_ (.inr GW237.out) _) | exact HK.out)⟩, ⟨by repeat (first | (with_reducible first | exact HB.out | apply bwA | apply bwN | apply bw1 | refine bwS ?_ GE235.out | refine bwS ?_ GE236.out | refine bwS ?_ GE237.out) | exact HB.out)⟩⟩
       ·replace c23 := Bool.eq_false_iff.mpr c23
        subst c23
        have H1 : (some (a0_0, a0_1, l0_2, 7)) = some (r1, r2, r3, r4) := by rw [if_neg (show ¬ (false = true) by decide)] at H; exact H
        clear H
        have H := H1
        clear H1
        simp only [Option.some.injEq, Prod.mk.injEq] at H
        obtain ⟨rfl, rfl, rfl, rfl⟩ := H
        have p240 : 0 ≤ (x9_1 : Int) := of_decide_eq_true (by first | (with_reducible assumption) | assumption)
        have q240 : x9_1 < (l2.length : Int) := of_decide_eq_true (by first | (with_reducible assumption) | assumption)
        obtain ⟨ad240, e240, hx240_0⟩ := Kd.at_int (Kd.C_kept_now HR2.out HK.out) x9_1 p240 q240
        cases e240
        replace p240 := eq_true p240
        replace q240 := eq_true q240
        go_wp2_with (first | ((with_reducible refine gate_callee (f := 61) rfl ?_); refine goesL_ (some 40) rfl rfl Tryz.func61 (by kernel_rfl) rfl #[.int .i64 (rd l2 x9_1)] rfl (by (try simp only [List.map_toArray, List.map_cons, List.map_nil]); first | done | rfl | (simp only [List.length_drop, List.length_take]; rfl)) ?_; (with_reducible refine (r04_May.calls (rd l2 x9_1) false _ A22.out).mono ?_); rintro e w' ⟨rfl, ⟨nd, rfl⟩⟩; refine ⟨_, rfl, ?_⟩; (try (rw [drewN_self wr]; generalize hq_ : World.drewN wr _ = wr; have n0_ : Ad (Kd.R (Kd.int .i64) 2 wr w0.heap.size (fun k_ => (P0_2_ k_ ∨ w.heap.size ≤ k_)) (.slice Ao8 l0_2.length co8) l0_2) := ⟨by rw [← hq_]; exact (by (with_reducible repeat (first | apply Kd.R_alloc | apply Kd.R_drewN | apply Kd.R_drew)); exact HO_236002.out)⟩; have n1_ : Ad (wr.heap[gb235]? = some (.cells #[.int .i64 a0_0, .int .i64 a0_1, .slice Ao8 l0_2.length co8] 53 (0, 0))) := ⟨by rw [← hq_]; exact (by (with_reducible repeat (first | refine bkN ?_ _ | refine bkD ?_ | refine bkA ?_ _)); exact BK235.out)⟩; have n2_ : Ad (wr.heap[gb236]? = some (.cells #[.int .i64 a1_0, .int .i64 a1_1, .int .i64 a1_2, .int .i64 a1_3] 23 (0, 0))) := ⟨by rw [← hq_]; exact (by (with_reducible repeat (first | refine bkN ?_ _ | refine bkD ?_ | refine bkA ?_ _)); exact BK236.out)⟩; have n3_ : Ad (wr.heap[gb237]? = some (.cells #[.int .i64 x238000_1, .int .i64 x238001_1, .slice none 0 0] 53 (0, 0))) := ⟨by rw [← hq_]; exact (by (with_reducible repeat (first | refine bkN ?_ _ | refine bkD ?_ | refine bkA ?_ _)); exact BK237.out)⟩; have n4_ : Ad (Kept w wr (fun k_ => P0_2_ k_)) := ⟨by rw [← hq_]; exact (by repeat (first | (with_reducible first | exact HK.out | apply Kept.alloc | apply Kept.drewN | apply Kept.drew | refine Kept.setCell ?_ (.inr GW235.out) _ | refine Kept.setCell ?_ (.inr GW236.out) _ | refine Kept.setCell ?_ (.inr GW237.out) _) | exact HK.out))⟩; have n5_ : Ad (Below w0.heap.size w0 wr) := ⟨by rw [← hq_]; exact (by repeat (first | (with_reducible first | exact HB.out | apply bwA | apply bwN | apply bw1 | refine bwS ?_ GE235.out | refine bwS ?_ GE236.out | refine bwS ?_ GE237.out) | exact HB.out))⟩; clear HO_236002 BK235 BK236 BK237 HK HB hq_; have HO_236002 := n0_; have BK235 := n1_; have BK236 := n2_; have BK237 := n3_; have HK := n4_; have HB := n5_; clear n0_ n1_ n2_ n3_ n4_ n5_)); have hnb24 := NB235_236.out; have hnc24 := NB236_235.out; have hnb25 := NB235_237.out; have hnc25 := NB237_235.out; have hcz26_0 : wr.cell? ⟨gb235, 0, none⟩ = some (.int .i64 a0_0) := (bkC BK235.out 0).trans rfl; have hcz26_1 : wr.cell? ⟨gb235, 1, none⟩ = some (.int .i64 a0_1) := (bkC BK235.out 1).trans rfl; have hcz26_2 : wr.cell? ⟨gb235, 2, none⟩ = some (.slice Ao8 l0_2.length co8) := (bkC BK235.out 2).trans rfl; have hfz26_0 := bkF BK235.out 0; have hfz26_1 := bkF BK235.out 1; have hfz26_2 := bkF BK235.out 2; have hnb27 := NB237_236.out; have hnc27 := NB236_237.out; have hcz28_0 : wr.cell? ⟨gb237, 0, none⟩ = some (.int .i64 x238000_1) := (bkC BK237.out 0).trans rfl; have hcz28_1 : wr.cell? ⟨gb237, 1, none⟩ = some (.int .i64 x238001_1) := (bkC BK237.out 1).trans rfl; have hcz28_2 : wr.cell? ⟨gb237, 2, none⟩ = some (.slice none 0 0) := (bkC BK237.out 2).trans rfl; have hfz28_0 := bkF BK237.out 0; have hfz28_1 := bkF BK237.out 1; have hfz28_2 := bkF BK237.out 2))
        refine bodyPost_ret (results_ct rfl _ _ gb237 53 #[.int .i64 a0_0, .int .i64 a0_1, .slice Ao8 l0_2.length co8] (0, 0) _ rfl (by (with_reducible repeat (first | refine bkN ?_ _ | refine bkD ?_ | refine bkA ?_ _)); refine blk_put (cs := #[.int .i64 a0_0, .int .i64 a0_1, .slice none 0 0]) ?_ 2 _ rfl; (with_reducible repeat (first | refine bkN ?_ _ | refine bkD ?_ | refine bkA ?_ _)); refine blk_put (cs := #[.int .i64 a0_0, .int .i64 x238001_1, .slice none 0 0]) ?_ 1 _ rfl; (with_reducible repeat (first | refine bkN ?_ _ | refine bkD ?_ | refine bkA ?_ _)); refine blk_put (cs := #[.int .i64 x238000_1, .int .i64 x238001_1, .slice none 0 0]) ?_ 0 _ rfl; (with_reducible repeat (first | refine bkN ?_ _ | refine bkD ?_ | refine bkA ?_ _)); exact BK237.out) Tryz.underlying53 rfl (by kernel_rfl)) rfl ?_
        exact ⟨_, by first | rfl | (simp [errW_none, errW_some] <;> rfl) | (simp [*, errW_none, errW_some] <;> rfl), by (with_reducible repeat (first | apply Kd.R_alloc | apply Kd.R_drewN | apply Kd.R_drew)); exact Kd.R_mono (Kd.R_far (p := ⟨gb237, 2, none⟩) (Kd.R_far (p := ⟨gb237, 1, none⟩) (Kd.R_far (p := ⟨gb237, 0, none⟩) (Kd.R_types HO_236002.out BK237.out (by decide)) (fun _ hk => hk.2) (.int .i64 a0_0)) (fun _ hk => hk.2) (.int .i64 a0_1)) (fun _ hk => hk.2) (.slice Ao8 l0_2.length co8)) (fun _ hk => hk.1), by repeat (first | (with_reducible first | exact HB.out | apply bwA | apply bwN | apply bw1 | refine bwS ?_ GE235.out | refine bwS ?_ GE236.out | refine bwS ?_ GE237.out) | exact HB.out), by repeat (first | (with_reducible first | exact HK.out | apply Kept.alloc | apply Kept.drewN | apply Kept.drew | refine Kept.setCell ?_ (.inr GW235.out) _ | refine Kept.setCell ?_ (.inr GW236.out) _ | refine Kept.setCell ?_ (.inr GW237.out) _) | exact HK.out)⟩
      ·rw [if_neg c21] at H
       exact absurd H (by simp)
     ·rw [if_neg c20] at H
      have c20b0 : decide (x9_1 < (l2.length : Int)) = false := decide_eq_false c20
      clear c20
      obtain ⟨y242, hy242⟩ : ∃ y_ : List Int, y_ = (([] : List Int)) := ⟨_, rfl⟩
      replace H : (if y242.length + l0_2.length < 17592186044416 then (r09_Paste.l1 k1 l2 0 a1_1 a0_0 a0_1 l0_2 a1_0 a1_1 a1_2 a1_3 a0_0 a0_1 (y242 ++ l0_2)) else (none)) = some (r1, r2, r3, r4) := by first | (rw [hy242]; with_reducible exact H) | (have H2_ := (Option.bind_some _ _).symm.trans H; rw [hy242]; with_reducible exact H2_) | (have H2_ := (Option.bind_some _ _).symm.trans H; with_reducible exact H2_) | with_reducible exact H | (rw [hy242]; exact H) | exact H
      have Ny242 := Ad.mk hy242
      clear hy242
      by_cases c29 : y242.length + l0_2.length < 17592186044416
      ·rw [if_pos c29] at H
       have LMc29 := Ad.mk c29
       clear c29
       obtain ⟨y245, hy245⟩ : ∃ y_ : List Int, y_ = (y242 ++ l0_2) := ⟨_, rfl⟩
       replace H : (r09_Paste.l1 k1 l2 0 a1_1 a0_0 a0_1 l0_2 a1_0 a1_1 a1_2 a1_3 a0_0 a0_1 y245) = some (r1, r2, r3, r4) := by first | (rw [hy245]; with_reducible exact H) | (have H2_ := (Option.bind_some _ _).symm.trans H; rw [hy245]; with_reducible exact H2_) | (have H2_ := (Option.bind_some _ _).symm.trans H; with_reducible exact H2_) | with_reducible exact H | (rw [hy245]; exact H) | exact H
       have Ny245 := Ad.mk hy245
       clear hy245
       have H' := Ad.mk H
       clear H
       try go_wp2
       have n0_ := Ad.mk (Kd.R_drew HO_236002.out)
       have n1_ := Ad.mk (bkD BK235.out)
       have n2_ := Ad.mk (bkD BK236.out)
       have n3_ := Ad.mk (bkD BK237.out)
       have n4_ := Ad.mk (Kept.drew HK.out)
       have n5_ := Ad.mk (bw1 HB.out)
       clear HO_236002
       clear BK235
       clear BK236
       clear BK237
       clear HK
       clear HB
       have HO_236002 := n0_
       have BK235 := n1_
       have BK236 := n2_
       have BK237 := n3_
       have HK := n4_
       have HB := n5_
       clear n0_ n1_ n2_ n3_ n4_ n5_
       refine start_ (n := 11) (S := fun w' => w'.cell? ⟨gb235, 0, none⟩ = some (.int .i64 a0_0) ∧ w'.cell? ⟨gb235, 1, none⟩ = some (.int .i64 a0_1) ∧ w'.cell? ⟨gb235, 2, none⟩ = some (.slice Ao8 l0_2.length co8)) (ds := []) #[false, false, false, false, false, false, false, false, false, false, false] (by kernel_rfl) rfl rfl ⟨(bkC BK235.out 0).trans rfl, (bkC BK235.out 1).trans rfl, (bkC BK235.out 2).trans rfl⟩ (fun hHeld => ?_); refine with_tabW r09_Paste.tab11 r09_Paste.bits11 (fun HT_ HW_ => ?_)
       generalize wr.drew = w30 at HO_236002 BK235 BK236 BK237 HK HB hHeld ⊢
       refine pure_ (i := 0) (N := some 43) (v := ?_) (a' := ?_) #[true, false, false, false, false, false, false, false, false, false, false] rfl rfl (any_of HT_.out (by kernel_rfl)) (fun _ _ _ h => h) (Or.inl ⟨by rfl, ?_⟩) ?_ ?_
       rotate_left
       ·intro w'
        go_simp
        with_reducible rfl
       rotate_left
       ·simp only [Act.put, List.setIfInBounds_toArray, List.set_cons_zero, List.set_cons_succ, i64_w]
        rfl
       refine pure_ (i := 2) (N := some 45) (v := ?_) (a' := ?_) #[true, false, true, false, false, false, false, false, false, false, false] rfl rfl (any_of HT_.out (by kernel_rfl)) (fun _ _ _ h => h) (Or.inl ⟨by rfl, ?_⟩) ?_ ?_
       rotate_left
       ·intro w'
        go_simp
        with_reducible rfl
       rotate_left
       ·simp only [Act.put, List.setIfInBounds_toArray, List.set_cons_zero, List.set_cons_succ, i64_w]
        rfl
       refine pure_ (i := 5) (N := some 48) (v := ?_) (a' := ?_) #[true, false, true, false, false, true, false, false, false, false, false] rfl rfl (any_of HT_.out (by kernel_rfl)) (fun _ _ _ h => h) (Or.inl ⟨by rfl, ?_⟩) ?_ ?_
       rotate_left
       ·intro w'
        go_simp
        with_reducible rfl
       rotate_left
       ·simp only [Act.put, List.setIfInBounds_toArray, List.set_cons_zero, List.set_cons_succ, i64_w]
        rfl
       refine take_ (i := 1) (N := some 44) (v := ?_) (a' := ?_) #[true, true, true, false, false, true, false, false, false, false, false] rfl rfl (take_ofW HT_.out HW_.out (by kernel_rfl)) (fun _ _ _ h => h) (Or.inl ⟨by rfl, ?_⟩) hHeld ?_ ?_
       rotate_left
       ·rintro w' ⟨s0, s1, s2⟩
        go_simp
        with_reducible rfl
       rotate_left
       ·simp only [Act.put, List.setIfInBounds_toArray, List.set_cons_zero, List.set_cons_succ, i64_w]
        rfl
       refine take_ (i := 3) (N := some 46) (v := ?_) (a' := ?_) #[true, true, true, true, false, true, false, false, false, false, false] rfl rfl (take_ofW HT_.out HW_.out (by kernel_rfl)) (fun _ _ _ h => h) (Or.inl ⟨by rfl, ?_⟩) hHeld ?_ ?_
       rotate_left
       ·rintro w' ⟨s0, s1, s2⟩
        go_simp
        with_reducible rfl
       rotate_left
       ·simp only [Act.put, List.setIfInBounds_toArray, List.set_cons_zero, List.set_cons_succ, i64_w]
        rfl
       refine take_ (i := 6) (N := some 49) (v := ?_) (a' := ?_) #[true, true, true, true, false, true, true, false, false, false, false] rfl rfl (take_ofW HT_.out HW_.out (by kernel_rfl)) (fun _ _ _ h => h) (Or.inl ⟨by rfl, ?_⟩) hHeld ?_ ?_
       rotate_left
       ·rintro w' ⟨s0, s1, s2⟩
        go_simp
        with_reducible rfl
       rotate_left
       ·simp only [Act.put, List.setIfInBounds_toArray, List.set_cons_zero, List.set_cons_succ, i64_w]
        rfl
       refine join_ (σ := Value × Value × Nat) 1 #[true, true, true, true, true, true, true, true, true, true, false] (fun s_ => [(47, s_.1), (50, s_.2.1), (10, .pointer (some ⟨s_.2.2, 0, none⟩)), (51, .agg #[.int .i64 a0_0, .int .i64 a0_1, s_.2.1])]) (fun s_ w' => (w'.cell? ⟨gb235, 0, none⟩ = some (.int .i64 a0_0) ∧ w'.cell? ⟨gb235, 1, none⟩ = some (.int .i64 a0_1) ∧ w'.cell? ⟨gb235, 2, none⟩ = some (.slice Ao8 l0_2.length co8)) ∧ (Kd.R (Kd.int .i64) 2 w' w0.heap.size (fun k_ => (P0_2_ k_ ∨ w.heap.size ≤ k_) ∧ some k_ ≠ (.slice Ao8 l0_2.length co8 : Value).ownBlock) s_.2.1 y245) ∧ (Kd.R (Kd.int .i64) 2 w' w0.heap.size (fun k_ => (P0_2_ k_ ∨ w.heap.size ≤ k_) ∧ some k_ ≠ (s_.2.1 : Value).ownBlock) (.slice Ao8 l0_2.length co8) l0_2) ∧ (w'.heap[gb235]? = some (.cells #[.int .i64 a0_0, .int .i64 a0_1, .slice Ao8 l0_2.length co8] 53 (0, 0))) ∧ (w'.heap[gb236]? = some (.cells #[.int .i64 a1_0, .int .i64 a1_1, .int .i64 a1_2, .int .i64 a1_3] 23 (0, 0))) ∧ (w'.heap[gb237]? = some (.cells #[.int .i64 x238000_1, .int .i64 x238001_1, .slice none 0 0] 53 (0, 0))) ∧ (w'.heap[s_.2.2]? = some (.cells #[.int .i64 0, .int .i64 0, .slice none 0 0] 53 (0, 0))) ∧ (w.heap.size ≤ s_.2.2) ∧ (w0.heap.size ≤ s_.2.2) ∧ (gb235 ≠ s_.2.2) ∧ (s_.2.2 ≠ gb235) ∧ (gb236 ≠ s_.2.2) ∧ (s_.2.2 ≠ gb236) ∧ (gb237 ≠ s_.2.2) ∧ (s_.2.2 ≠ gb237) ∧ (Kept w w' (fun k_ => P0_2_ k_)) ∧ (Below w0.heap.size w0 w')) ?_ ?_
       rotate_left
       ·intro hCont
        refine two_ (i := 4) (j := 9) (Ni := some 47) (Nj := some 10) #[true, true, true, true, true, true, true, false, false, false, false] #[true, true, true, true, false, true, true, false, false, true, false] rfl rfl rfl rfl (two_of HT_.out (by kernel_rfl)) (by decide) (by decide) (fun K hK => ?_) (fun K hK => ?_)
        ·skip
         refine Kd.R_lit_step (Kd.int .i64) _ 2 ?hg (N := 47) ?hd (xs := ([] : List Int)) (inner := []) (ok := fun _ => True) (okp := fun _ => True) ?hr ?hp (fun _ hk => hk) trivial (Below.refl _ _) (Nat.le_refl _) (by simp) ?_; (case hd => rfl); (case hg => rfl); (case hr => first | (go_simp; done) | (go_simp; rfl)); (case hp => exact (Reps.none _ _))
         intro v243 w31 ho32 hb hg_ hnew_
         clear hg_ hnew_
         (first | rw [← Ny242.out] at ho32 | (simp only [Int.reduceToNat] at ho32; rw [← Ny242.out] at ho32))
         have n0_ := Ad.mk (Kd.R_elder' (by (with_reducible repeat (first | apply Kd.R_alloc | apply Kd.R_drewN | apply Kd.R_drew)); exact HO_236002.out) (Kd.R_base ho32) hb)
         have n1_ := Ad.mk (Kd.R_lower (Kd.R_new' (Kd.R_newM (M := fun k_ => (P0_2_ k_ ∨ w.heap.size ≤ k_)) ho32 (by first | exact HK.out.1 | exact (show Kept w _ (fun k_ => P0_2_ k_) from by repeat (first | (with_reducible first | exact HK.out | apply Kept.alloc | apply Kept.drewN | apply Kept.drew | refine Kept.setCell ?_ (.inr GW235.out) _ | refine Kept.setCell ?_ (.inr GW236.out) _ | refine Kept.setCell ?_ (.inr GW237.out) _) | exact HK.out)).1) (fun k_ h_ => .inr h_)) (Kd.R_lt (by (with_reducible repeat (first | apply Kd.R_alloc | apply Kd.R_drewN | apply Kd.R_drew)); exact HO_236002.out))) (below_size (by repeat (first | (with_reducible first | exact HB.out | apply bwA | apply bwN | apply bw1 | refine bwS ?_ GE235.out | refine bwS ?_ GE236.out | refine bwS ?_ GE237.out) | exact HB.out))))
         have n2_ := Ad.mk (blk_below (g := gb235) (o := .cells #[.int .i64 a0_0, .int .i64 a0_1, .slice Ao8 l0_2.length co8] 53 (0, 0)) (by (with_reducible repeat (first | refine bkN ?_ _ | refine bkD ?_ | refine bkA ?_ _)); exact BK235.out) hb)
         have n3_ := Ad.mk (blk_below (g := gb236) (o := .cells #[.int .i64 a1_0, .int .i64 a1_1, .int .i64 a1_2, .int .i64 a1_3] 23 (0, 0)) (by (with_reducible repeat (first | refine bkN ?_ _ | refine bkD ?_ | refine bkA ?_ _)); exact BK236.out) hb)
         have n4_ := Ad.mk (blk_below (g := gb237) (o := .cells #[.int .i64 x238000_1, .int .i64 x238001_1, .slice none 0 0] 53 (0, 0)) (by (with_reducible repeat (first | refine bkN ?_ _ | refine bkD ?_ | refine bkA ?_ _)); exact BK237.out) hb)
         have n5_ := Ad.mk (Kept.below (S := (fun k_ => P0_2_ k_)) (by repeat (first | (with_reducible first | exact HK.out | apply Kept.alloc | apply Kept.drewN | apply Kept.drew | refine Kept.setCell ?_ (.inr GW235.out) _ | refine Kept.setCell ?_ (.inr GW236.out) _ | refine Kept.setCell ?_ (.inr GW237.out) _) | exact HK.out)) hb)
         have n6_ := Ad.mk (below_step (by repeat (first | (with_reducible first | exact HB.out | apply bwA | apply bwN | apply bw1 | refine bwS ?_ GE235.out | refine bwS ?_ GE236.out | refine bwS ?_ GE237.out) | exact HB.out)) hb)
         clear HO_236002
         clear BK235
         clear BK236
         clear BK237
         clear HK
         clear HB
         have HO_236002 := n0_
         have HO244 := n1_
         have BK235 := n2_
         have BK236 := n3_
         have BK237 := n4_
         have HK := n5_
         have HB := n6_
         clear n0_ n1_ n2_ n3_ n4_ n5_ n6_
         clear hb ho32
         refine hK.out _ _ ⟨(bkC BK235.out 0).trans rfl, (bkC BK235.out 1).trans rfl, (bkC BK235.out 2).trans rfl⟩ (fun hHeld => ?_)
         clear hK K
         refine norm_ (a' := ?_) ?_ ?_
         rotate_left
         ·show Act.put _ (some 47) _ = _
          simp only [Act.put, List.setIfInBounds_toArray, List.set_cons_zero, List.set_cons_succ, i64_w]
          rfl
         refine two_ (i := 7) (j := 9) (Ni := some 50) (Nj := some 10) #[true, true, true, true, true, true, true, true, false, false, false] #[true, true, true, true, true, true, true, false, false, true, false] rfl rfl rfl rfl (two_of HT_.out (by kernel_rfl)) (by decide) (by decide) (fun K hK => ?_) (fun K hK => ?_)
         ·skip
          refine Kd.R_append_rows_step (Kd.int .i64) (w0 := w0) w0.heap.size (by rfl) (.tmp 47) (.tmp 49) 26 2 (.int .i64 0) 8 rfl Tryz.underlying26 info2 rfl (by decide) (by omega) v243 y242 l0_2 _ _ _ (fun k_ => (P0_2_ k_ ∨ w.heap.size ≤ k_) ∧ some k_ ≠ (.slice Ao8 l0_2.length co8 : Value).ownBlock) (fun _ => False) rfl rfl ?aO ?aR (fun _ _ h => h) (fun _ h => h.elim) ?aF ?aB ?aS ?aL ?_
          (case aR => repeat (first | exact (Kd.R_reads' HO_236002.out).2.2 | (with_reducible refine Kd.C_alloc ?_ _) | (with_reducible refine Kd.C_drewN ?_ _) | (with_reducible refine Kd.C_drew ?_)))
          (case aB => exact (by repeat (first | (with_reducible first | exact HB.out | apply bwA | apply bwN | apply bw1 | refine bwS ?_ GE235.out | refine bwS ?_ GE236.out | refine bwS ?_ GE237.out) | exact HB.out)))
          (case aF => exact (fun k_ hk => ⟨(.inr (Nat.le_trans (by first | exact HK.out.1 | exact (show Kept w _ (fun k_ => P0_2_ k_) from by repeat (first | (with_reducible first | exact HK.out | apply Kept.alloc | apply Kept.drewN | apply Kept.drew | refine Kept.setCell ?_ (.inr GW235.out) _ | refine Kept.setCell ?_ (.inr GW236.out) _ | refine Kept.setCell ?_ (.inr GW237.out) _) | exact HK.out)).1) hk)), Kd.fresh' (Kd.R_lt (by (with_reducible repeat (first | apply Kd.R_alloc | apply Kd.R_drewN | apply Kd.R_drew)); exact HO_236002.out)) k_ hk⟩))
          (case aO => exact (by (with_reducible repeat (first | apply Kd.R_alloc | apply Kd.R_drewN | apply Kd.R_drew)); exact Kd.R_mono HO244.out (fun _ hk => ⟨hk.1.1, hk.2⟩)))
          (case aS => exact (below_size (by repeat (first | (with_reducible first | exact HB.out | apply bwA | apply bwN | apply bw1 | refine bwS ?_ GE235.out | refine bwS ?_ GE236.out | refine bwS ?_ GE237.out) | exact HB.out))))
          (case aL => have := LMc29.out; omega)
          intro v246 w33 ho hb hg hat
          rw [← Ny245.out] at ho
          have n0_ := Ad.mk (Kd.R_after (ok := (fun k_ => (P0_2_ k_ ∨ w.heap.size ≤ k_))) (by (with_reducible repeat (first | apply Kd.R_alloc | apply Kd.R_drewN | apply Kd.R_drew)); exact HO_236002.out) hg hat)
          have n1_ := Ad.mk (blk_grown (g := gb235) (o := .cells #[.int .i64 a0_0, .int .i64 a0_1, .slice Ao8 l0_2.length co8] 53 (0, 0)) (by (with_reducible repeat (first | refine bkN ?_ _ | refine bkD ?_ | refine bkA ?_ _)); exact BK235.out) hg (Kd.R_ne HO244.out BK235.out (by decide)))
          have n2_ := Ad.mk (blk_grown (g := gb236) (o := .cells #[.int .i64 a1_0, .int .i64 a1_1, .int .i64 a1_2, .int .i64 a1_3] 23 (0, 0)) (by (with_reducible repeat (first | refine bkN ?_ _ | refine bkD ?_ | refine bkA ?_ _)); exact BK236.out) hg (Kd.R_ne HO244.out BK236.out (by decide)))
          have n3_ := Ad.mk (blk_grown (g := gb237) (o := .cells #[.int .i64 x238000_1, .int .i64 x238001_1, .slice none 0 0] 53 (0, 0)) (by (with_reducible repeat (first | refine bkN ?_ _ | refine bkD ?_ | refine bkA ?_ _)); exact BK237.out) hg (Kd.R_ne HO244.out BK237.out (by decide)))
          have n4_ := Ad.mk (hb)
          have n5_ := Ad.mk (Kept.of_grown (S := (fun k_ => P0_2_ k_)) hg (by repeat (first | (with_reducible first | exact HK.out | apply Kept.alloc | apply Kept.drewN | apply Kept.drew | refine Kept.setCell ?_ (.inr GW235.out) _ | refine Kept.setCell ?_ (.inr GW236.out) _ | refine Kept.setCell ?_ (.inr GW237.out) _) | exact HK.out)) (fun k_ e_ => (HO244.out.1 k_ e_).1.1))
          have n6_ := Ad.mk (ho)
          clear HO_236002
          clear BK235
          clear BK236
          clear BK237
          clear HB
          clear HK
          clear HO244
          have HO_236002 := n0_
          have BK235 := n1_
          have BK236 := n2_
          have BK237 := n3_
          have HB := n4_
          have HK := n5_
          have HO247 := n6_
          clear n0_ n1_ n2_ n3_ n4_ n5_ n6_
          clear ho hb hg hat
          obtain ⟨Ao34, co34, eo34⟩ := Kd.R_slice HO247.out
          (first | subst eo34 | (injection eo34 with f1_ f2_ f3_; have f4_ := f1_.symm; have f5_ := f3_.symm; clear f1_ f2_ f3_; subst f4_; subst f5_))
          refine hK.out _ _ ⟨(bkC BK235.out 0).trans rfl, (bkC BK235.out 1).trans rfl, (bkC BK235.out 2).trans rfl⟩ (fun hHeld => ?_)
          clear hK K
          refine norm_ (a' := ?_) ?_ ?_
          rotate_left
          ·show Act.put _ (some 50) _ = _
           simp only [Act.put, List.setIfInBounds_toArray, List.set_cons_zero, List.set_cons_succ, i64_w]
           rfl
          refine pure_ (i := 8) (N := some 51) (v := ?_) (a' := ?_) #[true, true, true, true, true, true, true, true, true, false, false] rfl rfl (any_of HT_.out (by kernel_rfl)) (fun _ _ _ h => h) (Or.inl ⟨by rfl, ?_⟩) ?_ ?_
          rotate_left
          ·intro w'
           go_simp
           with_reducible rfl
          rotate_left
          ·simp only [Act.put, List.setIfInBounds_toArray, List.set_cons_zero, List.set_cons_succ, i64_w]
           rfl
          refine one_ (i := 9) (N := some 10) #[true, true, true, true, true, true, true, true, true, true, false] rfl rfl (one_of HT_.out (by kernel_rfl)) (by decide) (fun K hK => ?_)
          refine box_step ?hg (N := 10) ?hd (cs := #[.int .i64 0, .int .i64 0, .slice none 0 0]) (t := 53) ?hr ?_; (case hd => rfl); (case hg => rfl); (case hr => first | (go_simp; done) | (go_simp; rfl))
          intro gb248 hg w35 hbox hb
          have n0_ := Ad.mk (Kd.R_below (by (with_reducible repeat (first | apply Kd.R_alloc | apply Kd.R_drewN | apply Kd.R_drew)); exact HO_236002.out) hb)
          have n1_ := Ad.mk (Kd.R_below (by (with_reducible repeat (first | apply Kd.R_alloc | apply Kd.R_drewN | apply Kd.R_drew)); exact HO247.out) hb)
          have n2_ := Ad.mk (blk_below (g := gb235) (o := .cells #[.int .i64 a0_0, .int .i64 a0_1, .slice Ao8 l0_2.length co8] 53 (0, 0)) (by (with_reducible repeat (first | refine bkN ?_ _ | refine bkD ?_ | refine bkA ?_ _)); exact BK235.out) hb)
          have n3_ := Ad.mk (blk_below (g := gb236) (o := .cells #[.int .i64 a1_0, .int .i64 a1_1, .int .i64 a1_2, .int .i64 a1_3] 23 (0, 0)) (by (with_reducible repeat (first | refine bkN ?_ _ | refine bkD ?_ | refine bkA ?_ _)); exact BK236.out) hb)
          have n4_ := Ad.mk (blk_below (g := gb237) (o := .cells #[.int .i64 x238000_1, .int .i64 x238001_1, .slice none 0 0] 53 (0, 0)) (by (with_reducible repeat (first | refine bkN ?_ _ | refine bkD ?_ | refine bkA ?_ _)); exact BK237.out) hb)
          have n5_ := Ad.mk (Kept.below (S := (fun k_ => P0_2_ k_)) (by repeat (first | (with_reducible first | exact HK.out | apply Kept.alloc | apply Kept.drewN | apply Kept.drew | refine Kept.setCell ?_ (.inr GW235.out) _ | refine Kept.setCell ?_ (.inr GW236.out) _ | refine Kept.setCell ?_ (.inr GW237.out) _) | exact HK.out)) hb)
          have n6_ := Ad.mk (below_step (by repeat (first | (with_reducible first | exact HB.out | apply bwA | apply bwN | apply bw1 | refine bwS ?_ GE235.out | refine bwS ?_ GE236.out | refine bwS ?_ GE237.out) | exact HB.out)) hb)
          have n7_ := Ad.mk (hbox)
          have n8_ := Ad.mk ((by rw [hg]; exact (by first | exact HK.out.1 | exact (show Kept w _ (fun k_ => P0_2_ k_) from by repeat (first | (with_reducible first | exact HK.out | apply Kept.alloc | apply Kept.drewN | apply Kept.drew | refine Kept.setCell ?_ (.inr GW235.out) _ | refine Kept.setCell ?_ (.inr GW236.out) _ | refine Kept.setCell ?_ (.inr GW237.out) _) | exact HK.out)).1) : w.heap.size ≤ gb248))
          have n9_ := Ad.mk ((by rw [hg]; exact (below_size (by repeat (first | (with_reducible first | exact HB.out | apply bwA | apply bwN | apply bw1 | refine bwS ?_ GE235.out | refine bwS ?_ GE236.out | refine bwS ?_ GE237.out) | exact HB.out))) : w0.heap.size ≤ gb248))
          have n10_ := Ad.mk ((by rw [hg]; exact Nat.ne_of_lt (blk_lt (g := gb235) (o := .cells #[.int .i64 a0_0, .int .i64 a0_1, .slice Ao8 l0_2.length co8] 53 (0, 0)) (by (with_reducible repeat (first | refine bkN ?_ _ | refine bkD ?_ | refine bkA ?_ _)); exact BK235.out)) : gb235 ≠ gb248))
          have n11_ := Ad.mk ((by rw [hg]; exact Nat.ne_of_gt (blk_lt (g := gb235) (o := .cells #[.int .i64 a0_0, .int .i64 a0_1, .slice Ao8 l0_2.length co8] 53 (0, 0)) (by (with_reducible repeat (first | refine bkN ?_ _ | refine bkD ?_ | refine bkA ?_ _)); exact BK235.out)) : gb248 ≠ gb235))
          have n12_ := Ad.mk ((by rw [hg]; exact Nat.ne_of_lt (blk_lt (g := gb236) (o := .cells #[.int .i64 a1_0, .int .i64 a1_1, .int .i64 a1_2, .int .i64 a1_3] 23 (0, 0)) (by (with_reducible repeat (first | refine bkN ?_ _ | refine bkD ?_ | refine bkA ?_ _)); exact BK236.out)) : gb236 ≠ gb248))
          have n13_ := Ad.mk ((by rw [hg]; exact Nat.ne_of_gt (blk_lt (g := gb236) (o := .cells #[.int .i64 a1_0, .int .i64 a1_1, .int .i64 a1_2, .int .i64 a1_3] 23 (0, 0)) (by (with_reducible repeat (first | refine bkN ?_ _ | refine bkD ?_ | refine bkA ?_ _)); exact BK236.out)) : gb248 ≠ gb236))
          have n14_ := Ad.mk ((by rw [hg]; exact Nat.ne_of_lt (blk_lt (g := gb237) (o := .cells #[.int .i64 x238000_1, .int .i64 x238001_1, .slice none 0 0] 53 (0, 0)) (by (with_reducible repeat (first | refine bkN ?_ _ | refine bkD ?_ | refine bkA ?_ _)); exact BK237.out)) : gb237 ≠ gb248))
          have n15_ := Ad.mk ((by rw [hg]; exact Nat.ne_of_gt (blk_lt (g := gb237) (o := .cells #[.int .i64 x238000_1, .int .i64 x238001_1, .slice none 0 0] 53 (0, 0)) (by (with_reducible repeat (first | refine bkN ?_ _ | refine bkD ?_ | refine bkA ?_ _)); exact BK237.out)) : gb248 ≠ gb237))
          clear HO_236002
          clear HO247
          clear BK235
          clear BK236
          clear BK237
          clear HK
          clear HB
          have HO_236002 := n0_
          have HO247 := n1_
          have BK235 := n2_
          have BK236 := n3_
          have BK237 := n4_
          have HK := n5_
          have HB := n6_
          have BK248 := n7_
          have GW248 := n8_
          have GE248 := n9_
          have NB235_248 := n10_
          have NB248_235 := n11_
          have NB236_248 := n12_
          have NB248_236 := n13_
          have NB237_248 := n14_
          have NB248_237 := n15_
          clear n0_ n1_ n2_ n3_ n4_ n5_ n6_ n7_ n8_ n9_ n10_ n11_ n12_ n13_ n14_ n15_
          clear hb hbox hg
          refine hK.out _ _ ⟨(bkC BK235.out 0).trans rfl, (bkC BK235.out 1).trans rfl, (bkC BK235.out 2).trans rfl⟩ (fun hHeld => ?_)
          clear hK K
          refine norm_ (a' := ?_) ?_ ?_
          rotate_left
          ·show Act.put _ (some 10) _ = _
           simp only [Act.put, List.setIfInBounds_toArray, List.set_cons_zero, List.set_cons_succ, i64_w]
           rfl
          exact norm_ (by simp only [putAll, Act.put, List.setIfInBounds_toArray, List.set_cons_zero, List.set_cons_succ]) (hCont (v243, .slice Ao34 y245.length co34, gb248) _ ⟨hHeld, (by (with_reducible repeat (first | apply Kd.R_alloc | apply Kd.R_drewN | apply Kd.R_drew)); exact HO247.out), (by (with_reducible repeat (first | apply Kd.R_alloc | apply Kd.R_drewN | apply Kd.R_drew)); exact HO_236002.out), (by (with_reducible repeat (first | refine bkN ?_ _ | refine bkD ?_ | refine bkA ?_ _)); exact BK235.out), (by (with_reducible repeat (first | refine bkN ?_ _ | refine bkD ?_ | refine bkA ?_ _)); exact BK236.out), (by (with_reducible repeat (first | refine bkN ?_ _ | refine bkD ?_ | refine bkA ?_ _)); exact BK237.out), (by (with_reducible repeat (first | refine bkN ?_ _ | refine bkD ?_ | refine bkA ?_ _)); exact BK248.out), GW248.out, GE248.out, NB235_248.out, NB248_235.out, NB236_248.out, NB248_236.out, NB237_248.out, NB248_237.out, (by repeat (first | (with_reducible first | exact HK.out | apply Kept.alloc | apply Kept.drewN | apply Kept.drew | refine Kept.setCell ?_ (.inr GW235.out) _ | refine Kept.setCell ?_ (.inr GW236.out) _ | refine Kept.setCell ?_ (.inr GW237.out) _ | refine Kept.setCell ?_ (.inr GW248.out) _) | exact HK.out)), (by repeat (first | (with_reducible first | exact HB.out | apply bwA | apply bwN | apply bw1 | refine bwS ?_ GE235.out | refine bwS ?_ GE236.out | refine bwS ?_ GE237.out | refine bwS ?_ GE248.out) | exact HB.out))⟩)
         ·skip
          refine box_step ?hg (N := 10) ?hd (cs := #[.int .i64 0, .int .i64 0, .slice none 0 0]) (t := 53) ?hr ?_; (case hd => rfl); (case hg => rfl); (case hr => first | (go_simp; done) | (go_simp; rfl))
          intro gb248 hg w33 hbox hb
          have n0_ := Ad.mk (Kd.R_below (by (with_reducible repeat (first | apply Kd.R_alloc | apply Kd.R_drewN | apply Kd.R_drew)); exact HO_236002.out) hb)
          have n1_ := Ad.mk (Kd.R_below (by (with_reducible repeat (first | apply Kd.R_alloc | apply Kd.R_drewN | apply Kd.R_drew)); exact HO244.out) hb)
          have n2_ := Ad.mk (blk_below (g := gb235) (o := .cells #[.int .i64 a0_0, .int .i64 a0_1, .slice Ao8 l0_2.length co8] 53 (0, 0)) (by (with_reducible repeat (first | refine bkN ?_ _ | refine bkD ?_ | refine bkA ?_ _)); exact BK235.out) hb)
          have n3_ := Ad.mk (blk_below (g := gb236) (o := .cells #[.int .i64 a1_0, .int .i64 a1_1, .int .i64 a1_2, .int .i64 a1_3] 23 (0, 0)) (by (with_reducible repeat (first | refine bkN ?_ _ | refine bkD ?_ | refine bkA ?_ _)); exact BK236.out) hb)
          have n4_ := Ad.mk (blk_below (g := gb237) (o := .cells #[.int .i64 x238000_1, .int .i64 x238001_1, .slice none 0 0] 53 (0, 0)) (by (with_reducible repeat (first | refine bkN ?_ _ | refine bkD ?_ | refine bkA ?_ _)); exact BK237.out) hb)
          have n5_ := Ad.mk (Kept.below (S := (fun k_ => P0_2_ k_)) (by repeat (first | (with_reducible first | exact HK.out | apply Kept.alloc | apply Kept.drewN | apply Kept.drew | refine Kept.setCell ?_ (.inr GW235.out) _ | refine Kept.setCell ?_ (.inr GW236.out) _ | refine Kept.setCell ?_ (.inr GW237.out) _) | exact HK.out)) hb)
          have n6_ := Ad.mk (below_step (by repeat (first | (with_reducible first | exact HB.out | apply bwA | apply bwN | apply bw1 | refine bwS ?_ GE235.out | refine bwS ?_ GE236.out | refine bwS ?_ GE237.out) | exact HB.out)) hb)
          have n7_ := Ad.mk (hbox)
          have n8_ := Ad.mk ((by rw [hg]; exact (by first | exact HK.out.1 | exact (show Kept w _ (fun k_ => P0_2_ k_) from by repeat (first | (with_reducible first | exact HK.out | apply Kept.alloc | apply Kept.drewN | apply Kept.drew | refine Kept.setCell ?_ (.inr GW235.out) _ | refine Kept.setCell ?_ (.inr GW236.out) _ | refine Kept.setCell ?_ (.inr GW237.out) _) | exact HK.out)).1) : w.heap.size ≤ gb248))
          have n9_ := Ad.mk ((by rw [hg]; exact (below_size (by repeat (first | (with_reducible first | exact HB.out | apply bwA | apply bwN | apply bw1 | refine bwS ?_ GE235.out | refine bwS ?_ GE236.out | refine bwS ?_ GE237.out) | exact HB.out))) : w0.heap.size ≤ gb248))
          have n10_ := Ad.mk ((by rw [hg]; exact Nat.ne_of_lt (blk_lt (g := gb235) (o := .cells #[.int .i64 a0_0, .int .i64 a0_1, .slice Ao8 l0_2.length co8] 53 (0, 0)) (by (with_reducible repeat (first | refine bkN ?_ _ | refine bkD ?_ | refine bkA ?_ _)); exact BK235.out)) : gb235 ≠ gb248))
          have n11_ := Ad.mk ((by rw [hg]; exact Nat.ne_of_gt (blk_lt (g := gb235) (o := .cells #[.int .i64 a0_0, .int .i64 a0_1, .slice Ao8 l0_2.length co8] 53 (0, 0)) (by (with_reducible repeat (first | refine bkN ?_ _ | refine bkD ?_ | refine bkA ?_ _)); exact BK235.out)) : gb248 ≠ gb235))
          have n12_ := Ad.mk ((by rw [hg]; exact Nat.ne_of_lt (blk_lt (g := gb236) (o := .cells #[.int .i64 a1_0, .int .i64 a1_1, .int .i64 a1_2, .int .i64 a1_3] 23 (0, 0)) (by (with_reducible repeat (first | refine bkN ?_ _ | refine bkD ?_ | refine bkA ?_ _)); exact BK236.out)) : gb236 ≠ gb248))
          have n13_ := Ad.mk ((by rw [hg]; exact Nat.ne_of_gt (blk_lt (g := gb236) (o := .cells #[.int .i64 a1_0, .int .i64 a1_1, .int .i64 a1_2, .int .i64 a1_3] 23 (0, 0)) (by (with_reducible repeat (first | refine bkN ?_ _ | refine bkD ?_ | refine bkA ?_ _)); exact BK236.out)) : gb248 ≠ gb236))
          have n14_ := Ad.mk ((by rw [hg]; exact Nat.ne_of_lt (blk_lt (g := gb237) (o := .cells #[.int .i64 x238000_1, .int .i64 x238001_1, .slice none 0 0] 53 (0, 0)) (by (with_reducible repeat (first | refine bkN ?_ _ | refine bkD ?_ | refine bkA ?_ _)); exact BK237.out)) : gb237 ≠ gb248))
          have n15_ := Ad.mk ((by rw [hg]; exact Nat.ne_of_gt (blk_lt (g := gb237) (o := .cells #[.int .i64 x238000_1, .int .i64 x238001_1, .slice none 0 0] 53 (0, 0)) (by (with_reducible repeat (first | refine bkN ?_ _ | refine bkD ?_ | refine bkA ?_ _)); exact BK237.out)) : gb248 ≠ gb237))
          clear HO_236002
          clear HO244
          clear BK235
          clear BK236
          clear BK237
          clear HK
          clear HB
          have HO_236002 := n0_
          have HO244 := n1_
          have BK235 := n2_
          have BK236 := n3_
          have BK237 := n4_
          have HK := n5_
          have HB := n6_
          have BK248 := n7_
          have GW248 := n8_
          have GE248 := n9_
          have NB235_248 := n10_
          have NB248_235 := n11_
          have NB236_248 := n12_
          have NB248_236 := n13_
          have NB237_248 := n14_
          have NB248_237 := n15_
          clear n0_ n1_ n2_ n3_ n4_ n5_ n6_ n7_ n8_ n9_ n10_ n11_ n12_ n13_ n14_ n15_
          clear hb hbox hg
          refine hK.out _ _ ⟨(bkC BK235.out 0).trans rfl, (bkC BK235.out 1).trans rfl, (bkC BK235.out 2).trans rfl⟩ (fun hHeld => ?_)
          clear hK K
          refine norm_ (a' := ?_) ?_ ?_
          rotate_left
          ·show Act.put _ (some 10) _ = _
           simp only [Act.put, List.setIfInBounds_toArray, List.set_cons_zero, List.set_cons_succ, i64_w]
           rfl
          refine one_ (i := 7) (N := some 50) #[true, true, true, true, true, true, true, true, false, true, false] rfl rfl (one_of HT_.out (by kernel_rfl)) (by decide) (fun K hK => ?_)
          refine Kd.R_append_rows_step (Kd.int .i64) (w0 := w0) w0.heap.size (by rfl) (.tmp 47) (.tmp 49) 26 2 (.int .i64 0) 8 rfl Tryz.underlying26 info2 rfl (by decide) (by omega) v243 y242 l0_2 _ _ _ (fun k_ => (P0_2_ k_ ∨ w.heap.size ≤ k_) ∧ some k_ ≠ (.slice Ao8 l0_2.length co8 : Value).ownBlock) (fun _ => False) rfl rfl ?aO ?aR (fun _ _ h => h) (fun _ h => h.elim) ?aF ?aB ?aS ?aL ?_
          (case aR => repeat (first | exact (Kd.R_reads' HO_236002.out).2.2 | (with_reducible refine Kd.C_alloc ?_ _) | (with_reducible refine Kd.C_drewN ?_ _) | (with_reducible refine Kd.C_drew ?_)))
          (case aB => exact (by repeat (first | (with_reducible first | exact HB.out | apply bwA | apply bwN | apply bw1 | refine bwS ?_ GE235.out | refine bwS ?_ GE236.out | refine bwS ?_ GE237.out | refine bwS ?_ GE248.out) | exact HB.out)))
          (case aF => exact (fun k_ hk => ⟨(.inr (Nat.le_trans (by first | exact HK.out.1 | exact (show Kept w _ (fun k_ => P0_2_ k_) from by repeat (first | (with_reducible first | exact HK.out | apply Kept.alloc | apply Kept.drewN | apply Kept.drew | refine Kept.setCell ?_ (.inr GW235.out) _ | refine Kept.setCell ?_ (.inr GW236.out) _ | refine Kept.setCell ?_ (.inr GW237.out) _ | refine Kept.setCell ?_ (.inr GW248.out) _) | exact HK.out)).1) hk)), Kd.fresh' (Kd.R_lt (by (with_reducible repeat (first | apply Kd.R_alloc | apply Kd.R_drewN | apply Kd.R_drew)); exact HO_236002.out)) k_ hk⟩))
          (case aO => exact (by (with_reducible repeat (first | apply Kd.R_alloc | apply Kd.R_drewN | apply Kd.R_drew)); exact Kd.R_mono HO244.out (fun _ hk => ⟨hk.1.1, hk.2⟩)))
          (case aS => exact (below_size (by repeat (first | (with_reducible first | exact HB.out | apply bwA | apply bwN | apply bw1 | refine bwS ?_ GE235.out | refine bwS ?_ GE236.out | refine bwS ?_ GE237.out | refine bwS ?_ GE248.out) | exact HB.out))))
          (case aL => have := LMc29.out; omega)
          intro v246 w34 ho hb hg hat
          rw [← Ny245.out] at ho
          have n0_ := Ad.mk (Kd.R_after (ok := (fun k_ => (P0_2_ k_ ∨ w.heap.size ≤ k_))) (by (with_reducible repeat (first | apply Kd.R_alloc | apply Kd.R_drewN | apply Kd.R_drew)); exact HO_236002.out) hg hat)
          have n1_ := Ad.mk (blk_grown (g := gb235) (o := .cells #[.int .i64 a0_0, .int .i64 a0_1, .slice Ao8 l0_2.length co8] 53 (0, 0)) (by (with_reducible repeat (first | refine bkN ?_ _ | refine bkD ?_ | refine bkA ?_ _)); exact BK235.out) hg (Kd.R_ne HO244.out BK235.out (by decide)))
          have n2_ := Ad.mk (blk_grown (g := gb236) (o := .cells #[.int .i64 a1_0, .int .i64 a1_1, .int .i64 a1_2, .int .i64 a1_3] 23 (0, 0)) (by (with_reducible repeat (first | refine bkN ?_ _ | refine bkD ?_ | refine bkA ?_ _)); exact BK236.out) hg (Kd.R_ne HO244.out BK236.out (by decide)))
          have n3_ := Ad.mk (blk_grown (g := gb237) (o := .cells #[.int .i64 x238000_1, .int .i64 x238001_1, .slice none 0 0] 53 (0, 0)) (by (with_reducible repeat (first | refine bkN ?_ _ | refine bkD ?_ | refine bkA ?_ _)); exact BK237.out) hg (Kd.R_ne HO244.out BK237.out (by decide)))
          have n4_ := Ad.mk (blk_grown (g := gb248) (o := .cells #[.int .i64 0, .int .i64 0, .slice none 0 0] 53 (0, 0)) (by (with_reducible repeat (first | refine bkN ?_ _ | refine bkD ?_ | refine bkA ?_ _)); exact BK248.out) hg (Kd.R_ne HO244.out BK248.out (by decide)))
          have n5_ := Ad.mk (hb)
          have n6_ := Ad.mk (Kept.of_grown (S := (fun k_ => P0_2_ k_)) hg (by repeat (first | (with_reducible first | exact HK.out | apply Kept.alloc | apply Kept.drewN | apply Kept.drew | refine Kept.setCell ?_ (.inr GW235.out) _ | refine Kept.setCell ?_ (.inr GW236.out) _ | refine Kept.setCell ?_ (.inr GW237.out) _ | refine Kept.setCell ?_ (.inr GW248.out) _) | exact HK.out)) (fun k_ e_ => (HO244.out.1 k_ e_).1.1))
          have n7_ := Ad.mk (ho)
          clear HO_236002
          clear BK235
          clear BK236
          clear BK237
          clear BK248
          clear HB
          clear HK
          clear HO244
          have HO_236002 := n0_
          have BK235 := n1_
          have BK236 := n2_
          have BK237 := n3_
          have BK248 := n4_
          have HB := n5_
          have HK := n6_
          have HO247 := n7_
          clear n0_ n1_ n2_ n3_ n4_ n5_ n6_ n7_
          clear ho hb hg hat
          obtain ⟨Ao35, co35, eo35⟩ := Kd.R_slice HO247.out
          (first | subst eo35 | (injection eo35 with f1_ f2_ f3_; have f4_ := f1_.symm; have f5_ := f3_.symm; clear f1_ f2_ f3_; subst f4_; subst f5_))
          refine hK.out _ _ ⟨(bkC BK235.out 0).trans rfl, (bkC BK235.out 1).trans rfl, (bkC BK235.out 2).trans rfl⟩ (fun hHeld => ?_)
          clear hK K
          refine norm_ (a' := ?_) ?_ ?_
          rotate_left
          ·show Act.put _ (some 50) _ = _
           simp only [Act.put, List.setIfInBounds_toArray, List.set_cons_zero, List.set_cons_succ, i64_w]
           rfl
          refine pure_ (i := 8) (N := some 51) (v := ?_) (a' := ?_) #[true, true, true, true, true, true, true, true, true, true, false] rfl rfl (any_of HT_.out (by kernel_rfl)) (fun _ _ _ h => h) (Or.inl ⟨by rfl, ?_⟩) ?_ ?_
          rotate_left
          ·intro w'
           go_simp
           with_reducible rfl
          rotate_left
          ·simp only [Act.put, List.setIfInBounds_toArray, List.set_cons_zero, List.set_cons_succ, i64_w]
           rfl
          exact norm_ (by simp only [putAll, Act.put, List.setIfInBounds_toArray, List.set_cons_zero, List.set_cons_succ]) (hCont (v243, .slice Ao35 y245.length co35, gb248) _ ⟨hHeld, (by (with_reducible repeat (first | apply Kd.R_alloc | apply Kd.R_drewN | apply Kd.R_drew)); exact HO247.out), (by (with_reducible repeat (first | apply Kd.R_alloc | apply Kd.R_drewN | apply Kd.R_drew)); exact HO_236002.out), (by (with_reducible repeat (first | refine bkN ?_ _ | refine bkD ?_ | refine bkA ?_ _)); exact BK235.out), (by (with_reducible repeat (first | refine bkN ?_ _ | refine bkD ?_ | refine bkA ?_ _)); exact BK236.out), (by (with_reducible repeat (first | refine bkN ?_ _ | refine bkD ?_ | refine bkA ?_ _)); exact BK237.out), (by (with_reducible repeat (first | refine bkN ?_ _ | refine bkD ?_ | refine bkA ?_ _)); exact BK248.out), GW248.out, GE248.out, NB235_248.out, NB248_235.out, NB236_248.out, NB248_236.out, NB237_248.out, NB248_237.out, (by repeat (first | (with_reducible first | exact HK.out | apply Kept.alloc | apply Kept.drewN | apply Kept.drew | refine Kept.setCell ?_ (.inr GW235.out) _ | refine Kept.setCell ?_ (.inr GW236.out) _ | refine Kept.setCell ?_ (.inr GW237.out) _ | refine Kept.setCell ?_ (.inr GW248.out) _) | exact HK.out)), (by repeat (first | (with_reducible first | exact HB.out | apply bwA | apply bwN | apply bw1 | refine bwS ?_ GE235.out | refine bwS ?_ GE236.out | refine bwS ?_ GE237.out | refine bwS ?_ GE248.out) | exact HB.out))⟩)
        ·skip
         refine box_step ?hg (N := 10) ?hd (cs := #[.int .i64 0, .int .i64 0, .slice none 0 0]) (t := 53) ?hr ?_; (case hd => rfl); (case hg => rfl); (case hr => first | (go_simp; done) | (go_simp; rfl))
         intro gb248 hg w31 hbox hb
         have n0_ := Ad.mk (Kd.R_below (by (with_reducible repeat (first | apply Kd.R_alloc | apply Kd.R_drewN | apply Kd.R_drew)); exact HO_236002.out) hb)
         have n1_ := Ad.mk (blk_below (g := gb235) (o := .cells #[.int .i64 a0_0, .int .i64 a0_1, .slice Ao8 l0_2.length co8] 53 (0, 0)) (by (with_reducible repeat (first | refine bkN ?_ _ | refine bkD ?_ | refine bkA ?_ _)); exact BK235.out) hb)
         have n2_ := Ad.mk (blk_below (g := gb236) (o := .cells #[.int .i64 a1_0, .int .i64 a1_1, .int .i64 a1_2, .int .i64 a1_3] 23 (0, 0)) (by (with_reducible repeat (first | refine bkN ?_ _ | refine bkD ?_ | refine bkA ?_ _)); exact BK236.out) hb)
         have n3_ := Ad.mk (blk_below (g := gb237) (o := .cells #[.int .i64 x238000_1, .int .i64 x238001_1, .slice none 0 0] 53 (0, 0)) (by (with_reducible repeat (first | refine bkN ?_ _ | refine bkD ?_ | refine bkA ?_ _)); exact BK237.out) hb)
         have n4_ := Ad.mk (Kept.below (S := (fun k_ => P0_2_ k_)) (by repeat (first | (with_reducible first | exact HK.out | apply Kept.alloc | apply Kept.drewN | apply Kept.drew | refine Kept.setCell ?_ (.inr GW235.out) _ | refine Kept.setCell ?_ (.inr GW236.out) _ | refine Kept.setCell ?_ (.inr GW237.out) _) | exact HK.out)) hb)
         have n5_ := Ad.mk (below_step (by repeat (first | (with_reducible first | exact HB.out | apply bwA | apply bwN | apply bw1 | refine bwS ?_ GE235.out | refine bwS ?_ GE236.out | refine bwS ?_ GE237.out) | exact HB.out)) hb)
         have n6_ := Ad.mk (hbox)
         have n7_ := Ad.mk ((by rw [hg]; exact (by first | exact HK.out.1 | exact (show Kept w _ (fun k_ => P0_2_ k_) from by repeat (first | (with_reducible first | exact HK.out | apply Kept.alloc | apply Kept.drewN | apply Kept.drew | refine Kept.setCell ?_ (.inr GW235.out) _ | refine Kept.setCell ?_ (.inr GW236.out) _ | refine Kept.setCell ?_ (.inr GW237.out) _) | exact HK.out)).1) : w.heap.size ≤ gb248))
         have n8_ := Ad.mk ((by rw [hg]; exact (below_size (by repeat (first | (with_reducible first | exact HB.out | apply bwA | apply bwN | apply bw1 | refine bwS ?_ GE235.out | refine bwS ?_ GE236.out | refine bwS ?_ GE237.out) | exact HB.out))) : w0.heap.size ≤ gb248))
         have n9_ := Ad.mk ((by rw [hg]; exact Nat.ne_of_lt (blk_lt (g := gb235) (o := .cells #[.int .i64 a0_0, .int .i64 a0_1, .slice Ao8 l0_2.length co8] 53 (0, 0)) (by (with_reducible repeat (first | refine bkN ?_ _ | refine bkD ?_ | refine bkA ?_ _)); exact BK235.out)) : gb235 ≠ gb248))
         have n10_ := Ad.mk ((by rw [hg]; exact Nat.ne_of_gt (blk_lt (g := gb235) (o := .cells #[.int .i64 a0_0, .int .i64 a0_1, .slice Ao8 l0_2.length co8] 53 (0, 0)) (by (with_reducible repeat (first | refine bkN ?_ _ | refine bkD ?_ | refine bkA ?_ _)); exact BK235.out)) : gb248 ≠ gb235))
         have n11_ := Ad.mk ((by rw [hg]; exact Nat.ne_of_lt (blk_lt (g := gb236) (o := .cells #[.int .i64 a1_0, .int .i64 a1_1, .int .i64 a1_2, .int .i64 a1_3] 23 (0, 0)) (by (with_reducible repeat (first | refine bkN ?_ _ | refine bkD ?_ | refine bkA ?_ _)); exact BK236.out)) : gb236 ≠ gb248))
         have n12_ := Ad.mk ((by rw [hg]; exact Nat.ne_of_gt (blk_lt (g := gb236) (o := .cells #[.int .i64 a1_0, .int .i64 a1_1, .int .i64 a1_2, .int .i64 a1_3] 23 (0, 0)) (by (with_reducible repeat (first | refine bkN ?_ _ | refine bkD ?_ | refine bkA ?_ _)); exact BK236.out)) : gb248 ≠ gb236))
         have n13_ := Ad.mk ((by rw [hg]; exact Nat.ne_of_lt (blk_lt (g := gb237) (o := .cells #[.int .i64 x238000_1, .int .i64 x238001_1, .slice none 0 0] 53 (0, 0)) (by (with_reducible repeat (first | refine bkN ?_ _ | refine bkD ?_ | refine bkA ?_ _)); exact BK237.out)) : gb237 ≠ gb248))
         have n14_ := Ad.mk ((by rw [hg]; exact Nat.ne_of_gt (blk_lt (g := gb237) (o := .cells #[.int .i64 x238000_1, .int .i64 x238001_1, .slice none 0 0] 53 (0, 0)) (by (with_reducible repeat (first | refine bkN ?_ _ | refine bkD ?_ | refine bkA ?_ _)); exact BK237.out)) : gb248 ≠ gb237))
         clear HO_236002
         clear BK235
         clear BK236
         clear BK237
         clear HK
         clear HB
         have HO_236002 := n0_
         have BK235 := n1_
         have BK236 := n2_
         have BK237 := n3_
         have HK := n4_
         have HB := n5_
         have BK248 := n6_
         have GW248 := n7_
         have GE248 := n8_
         have NB235_248 := n9_
         have NB248_235 := n10_
         have NB236_248 := n11_
         have NB248_236 := n12_
         have NB237_248 := n13_
         have NB248_237 := n14_
         clear n0_ n1_ n2_ n3_ n4_ n5_ n6_ n7_ n8_ n9_ n10_ n11_ n12_ n13_ n14_
         clear hb hbox hg
         refine hK.out _ _ ⟨(bkC BK235.out 0).trans rfl, (bkC BK235.out 1).trans rfl, (bkC BK235.out 2).trans rfl⟩ (fun hHeld => ?_)
         clear hK K
         refine norm_ (a' := ?_) ?_ ?_
         rotate_left
         ·show Act.put _ (some 10) _ = _
          simp only [Act.put, List.setIfInBounds_toArray, List.set_cons_zero, List.set_cons_succ, i64_w]
          rfl
         refine one_ (i := 4) (N := some 47) #[true, true, true, true, true, true, true, false, false, true, false] rfl rfl (one_of HT_.out (by kernel_rfl)) (by decide) (fun K hK => ?_)
         refine Kd.R_lit_step (Kd.int .i64) _ 2 ?hg (N := 47) ?hd (xs := ([] : List Int)) (inner := []) (ok := fun _ => True) (okp := fun _ => True) ?hr ?hp (fun _ hk => hk) trivial (Below.refl _ _) (Nat.le_refl _) (by simp) ?_; (case hd => rfl); (case hg => rfl); (case hr => first | (go_simp; done) | (go_simp; rfl)); (case hp => exact (Reps.none _ _))
         intro v243 w32 ho33 hb hg_ hnew_
         clear hg_ hnew_
         (first | rw [← Ny242.out] at ho33 | (simp only [Int.reduceToNat] at ho33; rw [← Ny242.out] at ho33))
         have n0_ := Ad.mk (Kd.R_elder' (by (with_reducible repeat (first | apply Kd.R_alloc | apply Kd.R_drewN | apply Kd.R_drew)); exact HO_236002.out) (Kd.R_base ho33) hb)
         have n1_ := Ad.mk (Kd.R_lower (Kd.R_new' (Kd.R_newM (M := fun k_ => (P0_2_ k_ ∨ w.heap.size ≤ k_)) ho33 (by first | exact HK.out.1 | exact (show Kept w _ (fun k_ => P0_2_ k_) from by repeat (first | (with_reducible first | exact HK.out | apply Kept.alloc | apply Kept.drewN | apply Kept.drew | refine Kept.setCell ?_ (.inr GW235.out) _ | refine Kept.setCell ?_ (.inr GW236.out) _ | refine Kept.setCell ?_ (.inr GW237.out) _ | refine Kept.setCell ?_ (.inr GW248.out) _) | exact HK.out)).1) (fun k_ h_ => .inr h_)) (Kd.R_lt (by (with_reducible repeat (first | apply Kd.R_alloc | apply Kd.R_drewN | apply Kd.R_drew)); exact HO_236002.out))) (below_size (by repeat (first | (with_reducible first | exact HB.out | apply bwA | apply bwN | apply bw1 | refine bwS ?_ GE235.out | refine bwS ?_ GE236.out | refine bwS ?_ GE237.out | refine bwS ?_ GE248.out) | exact HB.out))))
         have n2_ := Ad.mk (blk_below (g := gb235) (o := .cells #[.int .i64 a0_0, .int .i64 a0_1, .slice Ao8 l0_2.length co8] 53 (0, 0)) (by (with_reducible repeat (first | refine bkN ?_ _ | refine bkD ?_ | refine bkA ?_ _)); exact BK235.out) hb)
         have n3_ := Ad.mk (blk_below (g := gb236) (o := .cells #[.int .i64 a1_0, .int .i64 a1_1, .int .i64 a1_2, .int .i64 a1_3] 23 (0, 0)) (by (with_reducible repeat (first | refine bkN ?_ _ | refine bkD ?_ | refine bkA ?_ _)); exact BK236.out) hb)
         have n4_ := Ad.mk (blk_below (g := gb237) (o := .cells #[.int .i64 x238000_1, .int .i64 x238001_1, .slice none 0 0] 53 (0, 0)) (by (with_reducible repeat (first | refine bkN ?_ _ | refine bkD ?_ | refine bkA ?_ _)); exact BK237.out) hb)
         have n5_ := Ad.mk (blk_below (g := gb248) (o := .cells #[.int .i64 0, .int .i64 0, .slice none 0 0] 53 (0, 0)) (by (with_reducible repeat (first | refine bkN ?_ _ | refine bkD ?_ | refine bkA ?_ _)); exact BK248.out) hb)
         have n6_ := Ad.mk (Kept.below (S := (fun k_ => P0_2_ k_)) (by repeat (first | (with_reducible first | exact HK.out | apply Kept.alloc | apply Kept.drewN | apply Kept.drew | refine Kept.setCell ?_ (.inr GW235.out) _ | refine Kept.setCell ?_ (.inr GW236.out) _ | refine Kept.setCell ?_ (.inr GW237.out) _ | refine Kept.setCell ?_ (.inr GW248.out) _) | exact HK.out)) hb)
         have n7_ := Ad.mk (below_step (by repeat (first | (with_reducible first | exact HB.out | apply bwA | apply bwN | apply bw1 | refine bwS ?_ GE235.out | refine bwS ?_ GE236.out | refine bwS ?_ GE237.out | refine bwS ?_ GE248.out) | exact HB.out)) hb)
         clear HO_236002
         clear BK235
         clear BK236
         clear BK237
         clear BK248
         clear HK
         clear HB
         have HO_236002 := n0_
         have HO244 := n1_
         have BK235 := n2_
         have BK236 := n3_
         have BK237 := n4_
         have BK248 := n5_
         have HK := n6_
         have HB := n7_
         clear n0_ n1_ n2_ n3_ n4_ n5_ n6_ n7_
         clear hb ho33
         refine hK.out _ _ ⟨(bkC BK235.out 0).trans rfl, (bkC BK235.out 1).trans rfl, (bkC BK235.out 2).trans rfl⟩ (fun hHeld => ?_)
         clear hK K
         refine norm_ (a' := ?_) ?_ ?_
         rotate_left
         ·show Act.put _ (some 47) _ = _
          simp only [Act.put, List.setIfInBounds_toArray, List.set_cons_zero, List.set_cons_succ, i64_w]
          rfl
         refine one_ (i := 7) (N := some 50) #[true, true, true, true, true, true, true, true, false, true, false] rfl rfl (one_of HT_.out (by kernel_rfl)) (by decide) (fun K hK => ?_)
         refine Kd.R_append_rows_step (Kd.int .i64) (w0 := w0) w0.heap.size (by rfl) (.tmp 47) (.tmp 49) 26 2 (.int .i64 0) 8 rfl Tryz.underlying26 info2 rfl (by decide) (by omega) v243 y242 l0_2 _ _ _ (fun k_ => (P0_2_ k_ ∨ w.heap.size ≤ k_) ∧ some k_ ≠ (.slice Ao8 l0_2.length co8 : Value).ownBlock) (fun _ => False) rfl rfl ?aO ?aR (fun _ _ h => h) (fun _ h => h.elim) ?aF ?aB ?aS ?aL ?_
         (case aR => repeat (first | exact (Kd.R_reads' HO_236002.out).2.2 | (with_reducible refine Kd.C_alloc ?_ _) | (with_reducible refine Kd.C_drewN ?_ _) | (with_reducible refine Kd.C_drew ?_)))
         (case aB => exact (by repeat (first | (with_reducible first | exact HB.out | apply bwA | apply bwN | apply bw1 | refine bwS ?_ GE235.out | refine bwS ?_ GE236.out | refine bwS ?_ GE237.out | refine bwS ?_ GE248.out) | exact HB.out)))
         (case aF => exact (fun k_ hk => ⟨(.inr (Nat.le_trans (by first | exact HK.out.1 | exact (show Kept w _ (fun k_ => P0_2_ k_) from by repeat (first | (with_reducible first | exact HK.out | apply Kept.alloc | apply Kept.drewN | apply Kept.drew | refine Kept.setCell ?_ (.inr GW235.out) _ | refine Kept.setCell ?_ (.inr GW236.out) _ | refine Kept.setCell ?_ (.inr GW237.out) _ | refine Kept.setCell ?_ (.inr GW248.out) _) | exact HK.out)).1) hk)), Kd.fresh' (Kd.R_lt (by (with_reducible repeat (first | apply Kd.R_alloc | apply Kd.R_drewN | apply Kd.R_drew)); exact HO_236002.out)) k_ hk⟩))
         (case aO => exact (by (with_reducible repeat (first | apply Kd.R_alloc | apply Kd.R_drewN | apply Kd.R_drew)); exact Kd.R_mono HO244.out (fun _ hk => ⟨hk.1.1, hk.2⟩)))
         (case aS => exact (below_size (by repeat (first | (with_reducible first | exact HB.out | apply bwA | apply bwN | apply bw1 | refine bwS ?_ GE235.out | refine bwS ?_ GE236.out | refine bwS ?_ GE237.out | refine bwS ?_ GE248.out) | exact HB.out))))
         (case aL => have := LMc29.out; omega)
         intro v246 w34 ho hb hg hat
         rw [← Ny245.out] at ho
         have n0_ := Ad.mk (Kd.R_after (ok := (fun k_ => (P0_2_ k_ ∨ w.heap.size ≤ k_))) (by (with_reducible repeat (first | apply Kd.R_alloc | apply Kd.R_drewN | apply Kd.R_drew)); exact HO_236002.out) hg hat)
         have n1_ := Ad.mk (blk_grown (g := gb235) (o := .cells #[.int .i64 a0_0, .int .i64 a0_1, .slice Ao8 l0_2.length co8] 53 (0, 0)) (by (with_reducible repeat (first | refine bkN ?_ _ | refine bkD ?_ | refine bkA ?_ _)); exact BK235.out) hg (Kd.R_ne HO244.out BK235.out (by decide)))
         have n2_ := Ad.mk (blk_grown (g := gb236) (o := .cells #[.int .i64 a1_0, .int .i64 a1_1, .int .i64 a1_2, .int .i64 a1_3] 23 (0, 0)) (by (with_reducible repeat (first | refine bkN ?_ _ | refine bkD ?_ | refine bkA ?_ _)); exact BK236.out) hg (Kd.R_ne HO244.out BK236.out (by decide)))
         have n3_ := Ad.mk (blk_grown (g := gb237) (o := .cells #[.int .i64 x238000_1, .int .i64 x238001_1, .slice none 0 0] 53 (0, 0)) (by (with_reducible repeat (first | refine bkN ?_ _ | refine bkD ?_ | refine bkA ?_ _)); exact BK237.out) hg (Kd.R_ne HO244.out BK237.out (by decide)))
         have n4_ := Ad.mk (blk_grown (g := gb248) (o := .cells #[.int .i64 0, .int .i64 0, .slice none 0 0] 53 (0, 0)) (by (with_reducible repeat (first | refine bkN ?_ _ | refine bkD ?_ | refine bkA ?_ _)); exact BK248.out) hg (Kd.R_ne HO244.out BK248.out (by decide)))
         have n5_ := Ad.mk (hb)
         have n6_ := Ad.mk (Kept.of_grown (S := (fun k_ => P0_2_ k_)) hg (by repeat (first | (with_reducible first | exact HK.out | apply Kept.alloc | apply Kept.drewN | apply Kept.drew | refine Kept.setCell ?_ (.inr GW235.out) _ | refine Kept.setCell ?_ (.inr GW236.out) _ | refine Kept.setCell ?_ (.inr GW237.out) _ | refine Kept.setCell ?_ (.inr GW248.out) _) | exact HK.out)) (fun k_ e_ => (HO244.out.1 k_ e_).1.1))
         have n7_ := Ad.mk (ho)
         clear HO_236002
         clear BK235
         clear BK236
         clear BK237
         clear BK248
         clear HB
         clear HK
         clear HO244
         have HO_236002 := n0_
         have BK235 := n1_
         have BK236 := n2_
         have BK237 := n3_
         have BK248 := n4_
         have HB := n5_
         have HK := n6_
         have HO247 := n7_
         clear n0_ n1_ n2_ n3_ n4_ n5_ n6_ n7_
         clear ho hb hg hat
         obtain ⟨Ao35, co35, eo35⟩ := Kd.R_slice HO247.out
         (first | subst eo35 | (injection eo35 with f1_ f2_ f3_; have f4_ := f1_.symm; have f5_ := f3_.symm; clear f1_ f2_ f3_; subst f4_; subst f5_))
         refine hK.out _ _ ⟨(bkC BK235.out 0).trans rfl, (bkC BK235.out 1).trans rfl, (bkC BK235.out 2).trans rfl⟩ (fun hHeld => ?_)
         clear hK K
         refine norm_ (a' := ?_) ?_ ?_
         rotate_left
         ·show Act.put _ (some 50) _ = _
          simp only [Act.put, List.setIfInBounds_toArray, List.set_cons_zero, List.set_cons_succ, i64_w]
          rfl
         refine pure_ (i := 8) (N := some 51) (v := ?_) (a' := ?_) #[true, true, true, true, true, true, true, true, true, true, false] rfl rfl (any_of HT_.out (by kernel_rfl)) (fun _ _ _ h => h) (Or.inl ⟨by rfl, ?_⟩) ?_ ?_
         rotate_left
         ·intro w'
          go_simp
          with_reducible rfl
         rotate_left
         ·simp only [Act.put, List.setIfInBounds_toArray, List.set_cons_zero, List.set_cons_succ, i64_w]
          rfl
         exact norm_ (by simp only [putAll, Act.put, List.setIfInBounds_toArray, List.set_cons_zero, List.set_cons_succ]) (hCont (v243, .slice Ao35 y245.length co35, gb248) _ ⟨hHeld, (by (with_reducible repeat (first | apply Kd.R_alloc | apply Kd.R_drewN | apply Kd.R_drew)); exact HO247.out), (by (with_reducible repeat (first | apply Kd.R_alloc | apply Kd.R_drewN | apply Kd.R_drew)); exact HO_236002.out), (by (with_reducible repeat (first | refine bkN ?_ _ | refine bkD ?_ | refine bkA ?_ _)); exact BK235.out), (by (with_reducible repeat (first | refine bkN ?_ _ | refine bkD ?_ | refine bkA ?_ _)); exact BK236.out), (by (with_reducible repeat (first | refine bkN ?_ _ | refine bkD ?_ | refine bkA ?_ _)); exact BK237.out), (by (with_reducible repeat (first | refine bkN ?_ _ | refine bkD ?_ | refine bkA ?_ _)); exact BK248.out), GW248.out, GE248.out, NB235_248.out, NB248_235.out, NB236_248.out, NB248_236.out, NB237_248.out, NB248_237.out, (by repeat (first | (with_reducible first | exact HK.out | apply Kept.alloc | apply Kept.drewN | apply Kept.drew | refine Kept.setCell ?_ (.inr GW235.out) _ | refine Kept.setCell ?_ (.inr GW236.out) _ | refine Kept.setCell ?_ (.inr GW237.out) _ | refine Kept.setCell ?_ (.inr GW248.out) _) | exact HK.out)), (by repeat (first | (with_reducible first | exact HB.out | apply bwA | apply bwN | apply bw1 | refine bwS ?_ GE235.out | refine bwS ?_ GE236.out | refine bwS ?_ GE237.out | refine bwS ?_ GE248.out) | exact HB.out))⟩)
       rintro ⟨v243, v246, gb248⟩ w36 ⟨hS_, h0_, h1_, h2_, h3_, h4_, h5_, h6_, h7_, h8_, h9_, h10_, h11_, h12_, h13_, h14_, h15_⟩
       have n0_ : Ad (Kd.R (Kd.int .i64) 2 w36 w0.heap.size (fun k_ => (P0_2_ k_ ∨ w.heap.size ≤ k_) ∧ some k_ ≠ (.slice Ao8 l0_2.length co8 : Value).ownBlock) v246 y245) := ⟨h0_⟩
       have n1_ : Ad (Kd.R (Kd.int .i64) 2 w36 w0.heap.size (fun k_ => (P0_2_ k_ ∨ w.heap.size ≤ k_) ∧ some k_ ≠ (v246 : Value).ownBlock) (.slice Ao8 l0_2.length co8) l0_2) := ⟨h1_⟩
       have n2_ : Ad (w36.heap[gb235]? = some (.cells #[.int .i64 a0_0, .int .i64 a0_1, .slice Ao8 l0_2.length co8] 53 (0, 0))) := ⟨h2_⟩
       have n3_ : Ad (w36.heap[gb236]? = some (.cells #[.int .i64 a1_0, .int .i64 a1_1, .int .i64 a1_2, .int .i64 a1_3] 23 (0, 0))) := ⟨h3_⟩
       have n4_ : Ad (w36.heap[gb237]? = some (.cells #[.int .i64 x238000_1, .int .i64 x238001_1, .slice none 0 0] 53 (0, 0))) := ⟨h4_⟩
       have n5_ : Ad (w36.heap[gb248]? = some (.cells #[.int .i64 0, .int .i64 0, .slice none 0 0] 53 (0, 0))) := ⟨h5_⟩
       have n6_ : Ad (w.heap.size ≤ gb248) := ⟨h6_⟩
       have n7_ : Ad (w0.heap.size ≤ gb248) := ⟨h7_⟩
       have n8_ : Ad (gb235 ≠ gb248) := ⟨h8_⟩
       have n9_ : Ad (gb248 ≠ gb235) := ⟨h9_⟩
       have n10_ : Ad (gb236 ≠ gb248) := ⟨h10_⟩
       have n11_ : Ad (gb248 ≠ gb236) := ⟨h11_⟩
       have n12_ : Ad (gb237 ≠ gb248) := ⟨h12_⟩
       have n13_ : Ad (gb248 ≠ gb237) := ⟨h13_⟩
       have n14_ : Ad (Kept w w36 (fun k_ => P0_2_ k_)) := ⟨h14_⟩
       have n15_ : Ad (Below w0.heap.size w0 w36) := ⟨h15_⟩
       clear HO_236002
       clear BK235
       clear BK236
       clear BK237
       clear HK
       clear HB
       clear h0_ h1_ h2_ h3_ h4_ h5_ h6_ h7_ h8_ h9_ h10_ h11_ h12_ h13_ h14_ h15_
       have HO247 := n0_
       have HO_236002 := n1_
       have BK235 := n2_
       have BK236 := n3_
       have BK237 := n4_
       have BK248 := n5_
       have GW248 := n6_
       have GE248 := n7_
       have NB235_248 := n8_
       have NB248_235 := n9_
       have NB236_248 := n10_
       have NB248_236 := n11_
       have NB237_248 := n12_
       have NB248_237 := n13_
       have HK := n14_
       have HB := n15_
       clear n0_ n1_ n2_ n3_ n4_ n5_ n6_ n7_ n8_ n9_ n10_ n11_ n12_ n13_ n14_ n15_
       have hHeld : w36.cell? ⟨gb235, 0, none⟩ = some (.int .i64 a0_0) ∧ w36.cell? ⟨gb235, 1, none⟩ = some (.int .i64 a0_1) ∧ w36.cell? ⟨gb235, 2, none⟩ = some (.slice Ao8 l0_2.length co8) := hS_
       obtain ⟨Ao37, co37, eo37⟩ := Kd.R_slice HO247.out
       (first | subst eo37 | (injection eo37 with f1_ f2_ f3_; have f4_ := f1_.symm; have f5_ := f3_.symm; clear f1_ f2_ f3_; subst f4_; subst f5_))
       refine norm_ (a' := ?_) ?_ ?_
       rotate_left
       ·simp only [putAll, Act.put, List.setIfInBounds_toArray, List.set_cons_zero, List.set_cons_succ]
        rfl
       refine one_ (i := 10) (N := none) #[true, true, true, true, true, true, true, true, true, true, true] rfl rfl (one_of HT_.out (by kernel_rfl)) (by decide) (fun K hK => ?_)
       have hs38 : w36.cell? ⟨gb248, 0, none⟩ = some (.int .i64 0) := (bkC BK248.out 0).trans rfl
       have hfs38 := bkF BK248.out 0
       have hns38_0 := NB235_248.out
       have hns38_1 := NB236_248.out
       have hns38_2 := NB237_248.out
       have hms38_0 := NB248_235.out
       have hms38_1 := NB248_236.out
       have hms38_2 := NB248_237.out
       have hs39 : w36.cell? ⟨gb248, 1, none⟩ = some (.int .i64 0) := (bkC BK248.out 1).trans rfl
       have hfs39 := bkF BK248.out 1
       have hns39_0 := NB235_248.out
       have hns39_1 := NB236_248.out
       have hns39_2 := NB237_248.out
       have hms39_0 := NB248_235.out
       have hms39_1 := NB248_236.out
       have hms39_2 := NB248_237.out
       have hs40 : w36.cell? ⟨gb248, 2, none⟩ = some (.slice none 0 0) := (bkC BK248.out 2).trans rfl
       have hfs40 := bkF BK248.out 2
       have hns40_0 := NB235_248.out
       have hns40_1 := NB236_248.out
       have hns40_2 := NB237_248.out
       have hms40_0 := NB248_235.out
       have hms40_1 := NB248_236.out
       have hms40_2 := NB248_237.out
       refine skip_ (w1 := ?_) (by rfl) rfl ?_ ?_
       rotate_left
       ·go_simp
        rfl
       refine hK.out _ _ ⟨((cell_far (p := ⟨gb248, _, none⟩) NB235_248.out _).trans (((cell_far (p := ⟨gb248, _, none⟩) NB235_248.out _).trans (((cell_far (p := ⟨gb248, _, none⟩) NB235_248.out _).trans (hHeld.1)))))), ((cell_far (p := ⟨gb248, _, none⟩) NB235_248.out _).trans (((cell_far (p := ⟨gb248, _, none⟩) NB235_248.out _).trans (((cell_far (p := ⟨gb248, _, none⟩) NB235_248.out _).trans (hHeld.2.1)))))), ((cell_far (p := ⟨gb248, _, none⟩) NB235_248.out _).trans (((cell_far (p := ⟨gb248, _, none⟩) NB235_248.out _).trans (((cell_far (p := ⟨gb248, _, none⟩) NB235_248.out _).trans (hHeld.2.2))))))⟩ (fun hHeld => ?_)
       clear hK K
       refine done_ (done_of HT_.out (by kernel_rfl)) ?_
       have hnb41 := NB236_235.out
       have hnc41 := NB235_236.out
       have hnb42 := NB236_237.out
       have hnc42 := NB237_236.out
       have hnb43 := NB236_248.out
       have hnc43 := NB248_236.out
       have hcz44_0 : w36.cell? ⟨gb236, 0, none⟩ = some (.int .i64 a1_0) := (bkC BK236.out 0).trans rfl
       have hcz44_1 : w36.cell? ⟨gb236, 1, none⟩ = some (.int .i64 a1_1) := (bkC BK236.out 1).trans rfl
       have hcz44_2 : w36.cell? ⟨gb236, 2, none⟩ = some (.int .i64 a1_2) := (bkC BK236.out 2).trans rfl
       have hcz44_3 : w36.cell? ⟨gb236, 3, none⟩ = some (.int .i64 a1_3) := (bkC BK236.out 3).trans rfl
       have hfz44_0 := bkF BK236.out 0
       have hfz44_1 := bkF BK236.out 1
       have hfz44_2 := bkF BK236.out 2
       have hfz44_3 := bkF BK236.out 3
       try go_wp2
       go_loopg [11, 12] k1 (fun kq v11 v12 w' => ∃ (x11_2 : Int) (x12_2 : Int) (x236002_2 : List Int) (x249002_2 : List Int) (u236002 : Value) (u249002 : Value), v11 = .int .i64 x11_2 ∧ v12 = .int .i64 x12_2 ∧ Ad (r09_Paste.l1 kq l2 x11_2 x12_2 a0_0 a0_1 x236002_2 a1_0 a1_1 a1_2 a1_3 a0_0 a0_1 x249002_2 = some (r1, r2, r3, r4)) ∧ Ad (kq ≤ k1) ∧ Ad (Kd.R (Kd.int .i64) 2 w' w0.heap.size (fun k_ => (P0_2_ k_ ∨ w.heap.size ≤ k_) ∧ some k_ ≠ (u249002 : Value).ownBlock) u236002 x236002_2) ∧ Ad (Kd.R (Kd.int .i64) 2 w' w0.heap.size (fun k_ => (P0_2_ k_ ∨ w.heap.size ≤ k_) ∧ some k_ ≠ (u236002 : Value).ownBlock) u249002 x249002_2) ∧ Ad (w'.heap[gb235]? = some (.cells #[.int .i64 a0_0, .int .i64 a0_1, u236002] 53 (0, 0))) ∧ Ad (w'.heap[gb236]? = some (.cells #[.int .i64 a1_0, .int .i64 a1_1, .int .i64 a1_2, .int .i64 a1_3] 23 (0, 0))) ∧ Ad (w'.heap[gb237]? = some (.cells #[.int .i64 x238000_1, .int .i64 x238001_1, (.slice none 0 0)] 53 (0, 0))) ∧ Ad (w'.heap[gb248]? = some (.cells #[.int .i64 a0_0, .int .i64 a0_1, u249002] 53 (0, 0))) ∧ Ad (Kept w w' (fun k_ => P0_2_ k_)) ∧ Ad (Below w0.heap.size w0 w'))
       case atStart => exact ⟨(0), (a1_1), (l0_2), (y245), (.slice Ao8 l0_2.length co8), (.slice Ao37 y245.length co37), (by first | rfl | (simp; done) | (simp [*]; done)), (by first | rfl | (simp; done) | (simp [*]; done)), H', ⟨Nat.le_refl _⟩, ⟨by (with_reducible repeat (first | apply Kd.R_alloc | apply Kd.R_drewN | apply Kd.R_drew)); exact Kd.R_mono (Kd.R_far (p := ⟨gb248, 2, none⟩) (Kd.R_far (p := ⟨gb248, 1, none⟩) (Kd.R_far (p := ⟨gb248, 0, none⟩) (Kd.R_types HO_236002.out BK248.out (by decide)) (fun _ hk => hk.2) (.int .i64 a0_0)) (fun _ hk => hk.2) (.int .i64 a0_1)) (fun _ hk => hk.2) (.slice Ao37 y245.length co37)) (fun _ hk => ⟨hk.1.1, hk.1.2⟩)⟩, ⟨by (with_reducible repeat (first | apply Kd.R_alloc | apply Kd.R_drewN | apply Kd.R_drew)); exact Kd.R_mono (Kd.R_far (p := ⟨gb248, 2, none⟩) (Kd.R_far (p := ⟨gb248, 1, none⟩) (Kd.R_far (p := ⟨gb248, 0, none⟩) (Kd.R_types HO247.out BK248.out (by decide)) (fun _ hk => hk.2) (.int .i64 a0_0)) (fun _ hk => hk.2) (.int .i64 a0_1)) (fun _ hk => hk.2) (.slice Ao37 y245.length co37)) (fun _ hk => ⟨hk.1.1, hk.1.2⟩)⟩, ⟨by (with_reducible repeat (first | refine bkN ?_ _ | refine bkD ?_ | refine bkA ?_ _)); refine blk_far ?_ NB235_248.out _; (with_reducible repeat (first | refine bkN ?_ _ | refine bkD ?_ | refine bkA ?_ _)); refine blk_far ?_ NB235_248.out _; (with_reducible repeat (first | refine bkN ?_ _ | refine bkD ?_ | refine bkA ?_ _)); refine blk_far ?_ NB235_248.out _; (with_reducible repeat (first | refine bkN ?_ _ | refine bkD ?_ | refine bkA ?_ _)); exact BK235.out⟩, ⟨by (with_reducible repeat (first | refine bkN ?_ _ | refine bkD ?_ | refine bkA ?_ _)); refine blk_far ?_ NB236_248.out _; (with_reducible repeat (first | refine bkN ?_ _ | refine bkD ?_ | refine bkA ?_ _)); refine blk_far ?_ NB236_248.out _; (with_reducible repeat (first | refine bkN ?_ _ | refine bkD ?_ | refine bkA ?_ _)); refine blk_far ?_ NB236_248.out _; (with_reducible repeat (first | refine bkN ?_ _ | refine bkD ?_ | refine bkA ?_ _)); exact BK236.out⟩, ⟨by (with_reducible repeat (first | refine bkN ?_ _ | refine bkD ?_ | refine bkA ?_ _)); refine blk_far ?_ NB237_248.out _; (with_reducible repeat (first | refine bkN ?_ _ | refine bkD ?_ | refine bkA ?_ _)); refine blk_far ?_ NB237_248.out _; (with_reducible repeat (first | refine bkN ?_ _ | refine bkD ?_ | refine bkA ?_ _)); refine blk_far ?_ NB237_248.out _; (with_reducible repeat (first | refine bkN ?_ _ | refine bkD ?_ | refine bkA ?_ _)); exact BK237.out⟩, ⟨by (with_reducible repeat (first | refine bkN ?_ _ | refine bkD ?_ | refine bkA ?_ _)); refine blk_put (cs := #[.int .i64 a0_0, .int .i64 a0_1, .slice none 0 0]) ?_ 2 _ rfl; (with_reducible repeat (first | refine bkN ?_ _ | refine bkD ?_ | refine bkA ?_ _)); refine blk_put (cs := #[.int .i64 a0_0, .int .i64 0, .slice none 0 0]) ?_ 1 _ rfl; (with_reducible repeat (first | refine bkN ?_ _ | refine bkD ?_ | refine bkA ?_ _)); refine blk_put (cs := #[.int .i64 0, .int .i64 0, .slice none 0 0]) ?_ 0 _ rfl; (with_reducible repeat (first | refine bkN ?_ _ | refine bkD ?_ | refine bkA ?_ _)); exact BK248.out⟩, ⟨by repeat (first | (with_reducible first | exact HK.out | apply Kept.alloc | apply Kept.drewN | apply Kept.drew | refine Kept.setCell ?_ (.inr GW235.out) _ | refine Kept.setCell ?_ (.inr GW236.out) _ | refine Kept.setCell ?_ (.inr GW237.out) _ | refine Kept.setCell ?_ (.inr GW248.out) _) | exact HK.out)⟩, ⟨by repeat (first | (with_reducible first | exact HB.out | apply bwA | apply bwN | apply bw1 | refine bwS ?_ GE235.out | refine bwS ?_ GE236.out | refine bwS ?_ GE237.out | refine bwS ?_ GE248.out) | exact HB.out)⟩⟩
       case round =>
        clear H'
        try clear c2
        try clear p2
        try clear q2
        try clear hx2
        try clear c4
        try clear c6
        try clear p6
        try clear c20
        try clear c20b0
        try clear c21
        try clear c23
        try clear c24
        try clear p24
        try clear q24
        try clear hx24
        try clear c25
        try clear c27
        try clear c29
        try clear c41
        try clear c42
        try clear c43
        try clear hcz26_0
        try clear hcz26_1
        try clear hcz26_2
        try clear hcz28_0
        try clear hcz28_1
        try clear hcz28_2
        try clear hcz44_0
        try clear hcz44_1
        try clear hcz44_2
        try clear hcz44_3
        try clear hfz26_0
        try clear hfz26_1
        try clear hfz26_2
        try clear hfz28_0
        try clear hfz28_1
        try clear hfz28_2
        try clear hfz44_0
        try clear hfz44_1
        try clear hfz44_2
        try clear hfz44_3
        try clear hx240_0
        try clear p240
        try clear q240
        obtain ⟨x11_2, x12_2, x236002_2, x249002_2, u236002, u249002, rfl, rfl, HA, HK2, HO_236002, HO_249002, BK235, BK236, BK237, BK248, HK, HB⟩ := hrel
        cases gk with
        | zero => exact absurd HA.out (by simp [r09_Paste.l1])
        | succ k2 =>
         have H := HA.out
         clear HA
         simp only [r09_Paste.l1] at H
         by_cases c45 : x12_2 ≤ a1_3
         ·rw [if_pos c45] at H
          have c45b0 : decide (x12_2 ≤ a1_3) = true := decide_eq_true c45
          clear c45
          have H' := Ad.mk H
          clear H
          have hnb46 := NB236_235.out
          have hnc46 := NB235_236.out
          have hnb47 := NB236_237.out
          have hnc47 := NB237_236.out
          have hnb48 := NB236_248.out
          have hnc48 := NB248_236.out
          have hcz49_0 : wr.cell? ⟨gb236, 0, none⟩ = some (.int .i64 a1_0) := (bkC BK236.out 0).trans rfl
          have hcz49_1 : wr.cell? ⟨gb236, 1, none⟩ = some (.int .i64 a1_1) := (bkC BK236.out 1).trans rfl
          have hcz49_2 : wr.cell? ⟨gb236, 2, none⟩ = some (.int .i64 a1_2) := (bkC BK236.out 2).trans rfl
          have hcz49_3 : wr.cell? ⟨gb236, 3, none⟩ = some (.int .i64 a1_3) := (bkC BK236.out 3).trans rfl
          have hfz49_0 := bkF BK236.out 0
          have hfz49_1 := bkF BK236.out 1
          have hfz49_2 := bkF BK236.out 2
          have hfz49_3 := bkF BK236.out 3
          go_wp2
          go_loopg [11, 13] k2 (fun kq v11 v13 w' => ∃ (x11_3 : Int) (x13_3 : Int) (x236002_3 : List Int) (x249002_3 : List Int) (u236002 : Value) (u249002 : Value), v11 = .int .i64 x11_3 ∧ v13 = .int .i64 x13_3 ∧ Ad (r09_Paste.l2 kq l2 x11_3 x12_2 x13_3 a0_0 a0_1 x236002_3 a1_0 a1_1 a1_2 a1_3 a0_0 a0_1 x249002_3 = some (r1, r2, r3, r4)) ∧ Ad (kq ≤ k2) ∧ Ad (Kd.R (Kd.int .i64) 2 w' w0.heap.size (fun k_ => (P0_2_ k_ ∨ w.heap.size ≤ k_) ∧ some k_ ≠ (u249002 : Value).ownBlock) u236002 x236002_3) ∧ Ad (Kd.R (Kd.int .i64) 2 w' w0.heap.size (fun k_ => (P0_2_ k_ ∨ w.heap.size ≤ k_) ∧ some k_ ≠ (u236002 : Value).ownBlock) u249002 x249002_3) ∧ Ad (w'.heap[gb235]? = some (.cells #[.int .i64 a0_0, .int .i64 a0_1, u236002] 53 (0, 0))) ∧ Ad (w'.heap[gb236]? = some (.cells #[.int .i64 a1_0, .int .i64 a1_1, .int .i64 a1_2, .int .i64 a1_3] 23 (0, 0))) ∧ Ad (w'.heap[gb237]? = some (.cells #[.int .i64 x238000_1, .int .i64 x238001_1, (.slice none 0 0)] 53 (0, 0))) ∧ Ad (w'.heap[gb248]? = some (.cells #[.int .i64 a0_0, .int .i64 a0_1, u249002] 53 (0, 0))) ∧ Ad (Kept w w' (fun k_ => P0_2_ k_)) ∧ Ad (Below w0.heap.size w0 w'))
          case atStart => exact ⟨(x11_2), (a1_0), (x236002_2), (x249002_2), (u236002), (u249002), (by first | rfl | (simp; done) | (simp [*]; done)), (by first | rfl | (simp; done) | (simp [*]; done)), H', ⟨Nat.le_refl _⟩, ⟨by (with_reducible repeat (first | apply Kd.R_alloc | apply Kd.R_drewN | apply Kd.R_drew)); exact HO_236002.out⟩, ⟨by (with_reducible repeat (first | apply Kd.R_alloc | apply Kd.R_drewN | apply Kd.R_drew)); exact HO_249002.out⟩, ⟨by (with_reducible repeat (first | refine bkN ?_ _ | refine bkD ?_ | refine bkA ?_ _)); exact BK235.out⟩, ⟨by (with_reducible repeat (first | refine bkN ?_ _ | refine bkD ?_ | refine bkA ?_ _)); exact BK236.out⟩, ⟨by (with_reducible repeat (first | refine bkN ?_ _ | refine bkD ?_ | refine bkA ?_ _)); exact BK237.out⟩, ⟨by (with_reducible repeat (first | refine bkN ?_ _ | refine bkD ?_ | refine bkA ?_ _)); exact BK248.out⟩, ⟨by repeat (first | (with_reducible first | exact HK.out | apply Kept.alloc | apply Kept.drewN | apply Kept.drew | refine Kept.setCell ?_ (.inr GW235.out) _ | refine Kept.setCell ?_ (.inr GW236.out) _ | refine Kept.setCell ?_ (.inr GW237.out) _ | refine Kept.setCell ?_ (.inr GW248.out) _) | exact HK.out)⟩, ⟨by repeat (first | (with_reducible first | exact HB.out | apply bwA | apply bwN | apply bw1 | refine bwS ?_ GE235.out | refine bwS ?_ GE236.out | refine bwS ?_ GE237.out | refine bwS ?_ GE248.out) | exact HB.out)⟩⟩
          case round =>
           clear H'
           try clear c2
           try clear p2
           try clear q2
           try clear hx2
           try clear c4
           try clear c6
           try clear p6
           try clear c20
           try clear c20b0
           try clear c21
           try clear c23
           try clear c24
           try clear p24
           try clear q24
           try clear hx24
           try clear c25
           try clear c27
           try clear c29
           try clear c41
           try clear c42
           try clear c43
           try clear c45
           try clear c45b0
           try clear c46
           try clear c47
           try clear c48
           try clear hcz26_0
           try clear hcz26_1
           try clear hcz26_2
           try clear hcz28_0
           try clear hcz28_1
           try clear hcz28_2
           try clear hcz44_0
           try clear hcz44_1
           try clear hcz44_2
           try clear hcz44_3
           try clear hcz49_0
           try clear hcz49_1
           try clear hcz49_2
           try clear hcz49_3
           try clear hfz26_0
           try clear hfz26_1
           try clear hfz26_2
           try clear hfz28_0
           try clear hfz28_1
           try clear hfz28_2
           try clear hfz44_0
           try clear hfz44_1
           try clear hfz44_2
           try clear hfz44_3
           try clear hfz49_0
           try clear hfz49_1
           try clear hfz49_2
           try clear hfz49_3
           try clear hx240_0
           try clear p2
           try clear p24
           try clear p240
           try clear p6
           try clear q2
           try clear q24
           try clear q240
           obtain ⟨x11_3, x13_3, x236002_3, x249002_3, u236002, u249002, rfl, rfl, HA, HK3, HO_236002, HO_249002, BK235, BK236, BK237, BK248, HK, HB⟩ := hrel
           cases gk with
           | zero => exact absurd HA.out (by simp [r09_Paste.l2])
           | succ k3 =>
            have H := HA.out
            clear HA
            simp only [r09_Paste.l2] at H
            by_cases c50 : x13_3 ≤ a1_2
            ·rw [if_pos c50] at H
             have c50b0 : decide (x13_3 ≤ a1_2) = true := decide_eq_true c50
             clear c50
             by_cases c51 : 0 ≤ x11_3
             ·rw [if_pos c51] at H
              have c51b0 : decide (0 ≤ x11_3) = true := decide_eq_true c51
              clear c51
              by_cases c52 : x11_3 < (l2.length : Int)
              ·rw [if_pos c52] at H
               have c52b0 : decide (x11_3 < (l2.length : Int)) = true := decide_eq_true c52
               clear c52
               obtain ⟨ji53, hji53⟩ : ∃ j_ : Int, (wrap64 ((wrap64 (x12_2 * a0_0)) + x13_3)) = j_ := ⟨_, rfl⟩
               replace H : (if 0 ≤ (ji53) then (if (ji53) < (x249002_3.length : Int) then (r09_Paste.l2 k3 l2 (wrap64 (x11_3 + 1)) x12_2 (wrap64 (x13_3 + 1)) a0_0 a0_1 x236002_3 a1_0 a1_1 a1_2 a1_3 a0_0 a0_1 (x249002_3.set ((ji53) : Int).toNat (rd l2 x11_3))) else (none)) else (none)) = some (r1, r2, r3, r4) := by first | (rw [hji53] at H; exact H) | (simp only [hji53] at H ⊢; exact H)
               have hji53w : (IntKind.i64.wrap ((wrap64 (x12_2 * a0_0)) + x13_3)) = ji53 := (i64_w _).trans hji53
               by_cases c54 : 0 ≤ (ji53)
               ·rw [if_pos c54] at H
                have c54b0 : decide (0 ≤ (ji53)) = true := decide_eq_true c54
                clear c54
                by_cases c55 : (ji53) < (x249002_3.length : Int)
                ·rw [if_pos c55] at H
                 have c55b0 : decide ((ji53) < (x249002_3.length : Int)) = true := decide_eq_true c55
                 clear c55
                 obtain ⟨y250, hy250⟩ : ∃ y_ : List Int, y_ = (x249002_3.set ((ji53) : Int).toNat (rd l2 x11_3)) := ⟨_, rfl⟩
                 replace H : (r09_Paste.l2 k3 l2 (wrap64 (x11_3 + 1)) x12_2 (wrap64 (x13_3 + 1)) a0_0 a0_1 x236002_3 a1_0 a1_1 a1_2 a1_3 a0_0 a0_1 y250) = some (r1, r2, r3, r4) := by first | (rw [hy250]; with_reducible exact H) | (have H2_ := (Option.bind_some _ _).symm.trans H; rw [hy250]; with_reducible exact H2_) | (have H2_ := (Option.bind_some _ _).symm.trans H; with_reducible exact H2_) | with_reducible exact H | (rw [hy250]; exact H) | exact H
                 have Ny250 := Ad.mk hy250
                 clear hy250
                 have H' := Ad.mk H
                 clear H
                 have hnb57 := NB236_235.out
                 have hnc57 := NB235_236.out
                 have hnb58 := NB236_237.out
                 have hnc58 := NB237_236.out
                 have hnb59 := NB236_248.out
                 have hnc59 := NB248_236.out
                 have hcz60_0 : wr.cell? ⟨gb236, 0, none⟩ = some (.int .i64 a1_0) := (bkC BK236.out 0).trans rfl
                 have hcz60_1 : wr.cell? ⟨gb236, 1, none⟩ = some (.int .i64 a1_1) := (bkC BK236.out 1).trans rfl
                 have hcz60_2 : wr.cell? ⟨gb236, 2, none⟩ = some (.int .i64 a1_2) := (bkC BK236.out 2).trans rfl
                 have hcz60_3 : wr.cell? ⟨gb236, 3, none⟩ = some (.int .i64 a1_3) := (bkC BK236.out 3).trans rfl
                 have hfz60_0 := bkF BK236.out 0
                 have hfz60_1 := bkF BK236.out 1
                 have hfz60_2 := bkF BK236.out 2
                 have hfz60_3 := bkF BK236.out 3
                 try go_wp2
                 have n0_ := Ad.mk (Kd.R_drew HO_236002.out)
                 have n1_ := Ad.mk (Kd.R_drew HO_249002.out)
                 have n2_ := Ad.mk (bkD BK235.out)
                 have n3_ := Ad.mk (bkD BK236.out)
                 have n4_ := Ad.mk (bkD BK237.out)
                 have n5_ := Ad.mk (bkD BK248.out)
                 have n6_ := Ad.mk (Kept.drew HK.out)
                 have n7_ := Ad.mk (bw1 HB.out)
                 clear HO_236002
                 clear HO_249002
                 clear BK235
                 clear BK236
                 clear BK237
                 clear BK248
                 clear HK
                 clear HB
                 have HO_236002 := n0_
                 have HO_249002 := n1_
                 have BK235 := n2_
                 have BK236 := n3_
                 have BK237 := n4_
                 have BK248 := n5_
                 have HK := n6_
                 have HB := n7_
                 clear n0_ n1_ n2_ n3_ n4_ n5_ n6_ n7_
                 have p249 : 0 ≤ (x11_3 : Int) := of_decide_eq_true (by first | (with_reducible assumption) | assumption)
                 have q249 : x11_3 < (l2.length : Int) := of_decide_eq_true (by first | (with_reducible assumption) | assumption)
                 obtain ⟨ad249, e249, hx249_0⟩ := Kd.at_int (Kd.C_kept_now HR2.out HK.out) x11_3 p249 q249
                 have hw249_0 := hx249_0
                 cases e249
                 replace p249 := eq_true p249
                 replace q249 := eq_true q249
                 have p56 : 0 ≤ ((ji53) : Int) := of_decide_eq_true (by first | (with_reducible assumption) | assumption)
                 have q56 : ((ji53) : Int) < ((x249002_3.length : Int) : Int) := of_decide_eq_true (by first | (with_reducible assumption) | assumption)
                 obtain ⟨go56, co56, eo56, gb56, gl56, cl56, HG56⟩ := Kd.R_form HO_249002.out (by omega)
                 (first | cases eo56 | (injection eo56 with ea_ en_ ec_; (first | subst ea_ | (injection ea_ with ea_; subst ea_)); subst ec_; clear en_))
                 have GB56 := Ad.mk gb56
                 have GG56 := Ad.mk HG56
                 clear gb56 gl56 HG56
                 have HMgo56 := Ad.mk (show (P0_2_ go56 ∨ w.heap.size ≤ go56) from (HO_249002.out.1 _ rfl).1)
                 obtain ⟨hx56_0, hf56_0⟩ := Kd.R_celln 0 HO_249002.out ((ji53) : Int) p56 q56
                 replace p56 := eq_true p56
                 replace q56 := eq_true q56
                 have HP62 := Kd.R_putn HO_249002.out ((ji53) : Int) (rd l2 x11_3)
                 rw [← Ny250.out] at HP62
                 have HQ62 := Ad.mk HP62
                 clear HP62
                 refine start_ (n := 14) (S := fun w' => w'.cell? ⟨gb248, 0, none⟩ = some (.int .i64 a0_0) ∧ w'.cell? ⟨gb248, 1, none⟩ = some (.int .i64 a0_1) ∧ w'.cell? ⟨gb248, 2, none⟩ = some (.slice (some ⟨go56, 0, none⟩) x249002_3.length co56) ∧ w'.cell? ⟨gb235, 0, none⟩ = some (.int .i64 a0_0) ∧ w'.cell? ⟨gb235, 1, none⟩ = some (.int .i64 a0_1) ∧ w'.cell? ⟨gb235, 2, none⟩ = some (u236002) ∧ w'.cell? (ad249.add (x11_3).toNat) = some (.int .i64 (rd l2 x11_3))) (ds := [13]) #[false, false, false, false, false, false, false, false, false, false, false, false, false, false] (by kernel_rfl) rfl rfl ⟨(bkC BK248.out 0).trans rfl, (bkC BK248.out 1).trans rfl, (bkC BK248.out 2).trans rfl, (bkC BK235.out 0).trans rfl, (bkC BK235.out 1).trans rfl, (bkC BK235.out 2).trans rfl, (Kd.foot_int (HR2.out _ (by repeat (first | exact HK.out | apply Kept.alloc | apply Kept.drewN | apply Kept.drew | refine Kept.setCell ?_ HMgo56.out _))) x11_3 (of_eq_true p249) (of_eq_true q249))⟩ (fun hHeld => ?_); refine with_tabW r09_Paste.tab19 r09_Paste.bits19 (fun HT_ HW_ => ?_)
                 generalize wr.drew = w61 at HO_236002 HO_249002 BK235 BK236 BK237 BK248 HK HB GG56 HQ62 hf56_0 hx249_0 hx56_0 hHeld ⊢
                 refine pure_ (i := 0) (N := some 68) (v := ?_) (a' := ?_) #[true, false, false, false, false, false, false, false, false, false, false, false, false, false] rfl rfl (any_of HT_.out (by kernel_rfl)) (fun _ _ _ h => h) (Or.inl ⟨by rfl, ?_⟩) ?_ ?_
                 rotate_left
                 ·intro w'
                  go_simp
                  with_reducible rfl
                 rotate_left
                 ·simp only [Act.put, List.setIfInBounds_toArray, List.set_cons_zero, List.set_cons_succ, i64_w]
                  rfl
                 refine pure_ (i := 2) (N := some 70) (v := ?_) (a' := ?_) #[true, false, true, false, false, false, false, false, false, false, false, false, false, false] rfl rfl (any_of HT_.out (by kernel_rfl)) (fun _ _ _ h => h) (Or.inl ⟨by rfl, ?_⟩) ?_ ?_
                 rotate_left
                 ·intro w'
                  go_simp
                  with_reducible rfl
                 rotate_left
                 ·simp only [Act.put, List.setIfInBounds_toArray, List.set_cons_zero, List.set_cons_succ, i64_w]
                  rfl
                 refine pure_ (i := 3) (N := some 71) (v := ?_) (a' := ?_) #[true, false, true, true, false, false, false, false, false, false, false, false, false, false] rfl rfl (any_of HT_.out (by kernel_rfl)) (fun _ _ _ h => h) (Or.inl ⟨by rfl, ?_⟩) ?_ ?_
                 rotate_left
                 ·intro w'
                  go_simp
                  with_reducible rfl
                 rotate_left
                 ·simp only [Act.put, List.setIfInBounds_toArray, List.set_cons_zero, List.set_cons_succ, i64_w]
                  rfl
                 refine pure_ (i := 6) (N := some 74) (v := ?_) (a' := ?_) #[true, false, true, true, false, false, true, false, false, false, false, false, false, false] rfl rfl (any_of HT_.out (by kernel_rfl)) (fun _ _ _ h => h) (Or.inl ⟨by rfl, ?_⟩) ?_ ?_
                 rotate_left
                 ·intro w'
                  go_simp
                  with_reducible rfl
                 rotate_left
                 ·simp only [Act.put, List.setIfInBounds_toArray, List.set_cons_zero, List.set_cons_succ, i64_w]
                  rfl
                 refine pure_ (i := 8) (N := some 76) (v := ?_) (a' := ?_) #[true, false, true, true, false, false, true, false, true, false, false, false, false, false] rfl rfl (any_of HT_.out (by kernel_rfl)) (fun _ _ _ h => h) (Or.inl ⟨by rfl, ?_⟩) ?_ ?_
                 rotate_left
                 ·intro w'
                  go_simp
                  with_reducible rfl
                 rotate_left
                 ·simp only [Act.put, List.setIfInBounds_toArray, List.set_cons_zero, List.set_cons_succ, i64_w]
                  rfl
                 refine pure_ (i := 9) (N := some 77) (v := ?_) (a' := ?_) #[true, false, true, true, false, false, true, false, true, true, false, false, false, false] rfl rfl (any_of HT_.out (by kernel_rfl)) (fun _ _ _ h => h) (Or.inl ⟨by rfl, ?_⟩) ?_ ?_
                 rotate_left
                 ·intro w'
                  go_simp
                  with_reducible rfl
                 rotate_left
                 ·simp only [Act.put, List.setIfInBounds_toArray, List.set_cons_zero, List.set_cons_succ, i64_w]
                  rfl
                 refine pure_ (i := 10) (N := some 78) (v := ?_) (a' := ?_) #[true, false, true, true, false, false, true, false, true, true, true, false, false, false] rfl rfl (any_of HT_.out (by kernel_rfl)) (fun _ _ _ h => h) (Or.inl ⟨by rfl, ?_⟩) ?_ ?_
                 rotate_left
                 ·intro w'
                  go_simp
                  with_reducible rfl
                 rotate_left
                 ·simp only [Act.put, List.setIfInBounds_toArray, List.set_cons_zero, List.set_cons_succ, i64_w]
                  rfl
                 refine take_ (i := 1) (N := some 69) (v := ?_) (a' := ?_) #[true, true, true, true, false, false, true, false, true, true, true, false, false, false] rfl rfl (take_ofW HT_.out HW_.out (by kernel_rfl)) (fun _ _ _ h => h) (Or.inl ⟨by rfl, ?_⟩) hHeld ?_ ?_
                 rotate_left
                 ·rintro w' ⟨s0, s1, s2, s3, s4, s5, s6⟩
                  go_simp
                  with_reducible rfl
                 rotate_left
                 ·simp only [Act.put, List.setIfInBounds_toArray, List.set_cons_zero, List.set_cons_succ, i64_w]
                  rfl
                 refine take_ (i := 4) (N := some 72) (v := ?_) (a' := ?_) #[true, true, true, true, true, false, true, false, true, true, true, false, false, false] rfl rfl (take_ofW HT_.out HW_.out (by kernel_rfl)) (fun _ _ _ h => h) (Or.inl ⟨by rfl, ?_⟩) hHeld ?_ ?_
                 rotate_left
                 ·rintro w' ⟨s0, s1, s2, s3, s4, s5, s6⟩
                  go_simp
                  with_reducible rfl
                 rotate_left
                 ·simp only [Act.put, List.setIfInBounds_toArray, List.set_cons_zero, List.set_cons_succ, i64_w]
                  rfl
                 refine pure_ (i := 5) (N := some 73) (v := ?_) (a' := ?_) #[true, true, true, true, true, true, true, false, true, true, true, false, false, false] rfl rfl (any_of HT_.out (by kernel_rfl)) (fun _ _ _ h => h) (Or.inl ⟨by rfl, ?_⟩) ?_ ?_
                 rotate_left
                 ·intro w'
                  go_simp
                  with_reducible rfl
                 rotate_left
                 ·simp only [Act.put, List.setIfInBounds_toArray, List.set_cons_zero, List.set_cons_succ, i64_w]
                  rfl
                 refine pure_ (i := 7) (N := some 75) (v := ?_) (a' := ?_) #[true, true, true, true, true, true, true, true, true, true, true, false, false, false] rfl rfl (any_of HT_.out (by kernel_rfl)) (fun _ _ _ h => h) (Or.inl ⟨by rfl, ?_⟩) ?_ ?_
                 rotate_left
                 ·intro w'
                  go_simp
                  with_reducible rfl
                 rotate_left
                 ·simp only [Act.put, List.setIfInBounds_toArray, List.set_cons_zero, List.set_cons_succ, i64_w]
                  rfl
                 refine take_ (i := 11) (N := some 79) (v := ?_) (a' := ?_) #[true, true, true, true, true, true, true, true, true, true, true, true, false, false] rfl rfl (take_ofW HT_.out HW_.out (by kernel_rfl)) (fun _ _ _ h => h) (Or.inl ⟨by rfl, ?_⟩) hHeld ?_ ?_
                 rotate_left
                 ·rintro w' ⟨s0, s1, s2, s3, s4, s5, s6⟩
                  go_simp
                  with_reducible rfl
                 rotate_left
                 ·simp only [Act.put, List.setIfInBounds_toArray, List.set_cons_zero, List.set_cons_succ, i64_w]
                  rfl
                 refine pure_ (i := 12) (N := some 80) (v := ?_) (a' := ?_) #[true, true, true, true, true, true, true, true, true, true, true, true, true, false] rfl rfl (any_of HT_.out (by kernel_rfl)) (fun _ _ _ h => h) (Or.inl ⟨by rfl, ?_⟩) ?_ ?_
                 rotate_left
                 ·intro w'
                  go_simp
                  with_reducible rfl
                 rotate_left
                 ·simp only [Act.put, List.setIfInBounds_toArray, List.set_cons_zero, List.set_cons_succ, i64_w]
                  rfl
                 refine last_ (i := 13) (N := none) #[true, true, true, true, true, true, true, true, true, true, true, true, true, true] rfl rfl (one_of HT_.out (by kernel_rfl)) (by decide) (fun K hK => ?_)
                 refine skip_ (w1 := ?_) (by rfl) rfl ?_ ?_
                 rotate_left
                 ·go_simp
                  rfl
                 refine hK.out _ _ ?_
                 clear hK K
                 refine done_ (done_of HT_.out (by kernel_rfl)) ?_
                 try go_wp2
                 go_roundg k3
                 case measure => have := HK1.out; have := HK2.out; have := HK3.out; omega
                 case rel => exact ⟨(wrap64 (x11_3 + 1)), (wrap64 (x13_3 + 1)), (x236002_3), (y250), (u236002), (.slice (some ⟨go56, 0, none⟩) x249002_3.length co56), (by first | rfl | (simp; done) | (simp [*]; done)), (by first | rfl | (simp; done) | (simp [*]; done)), H', ⟨by have := HK1.out; have := HK2.out; have := HK3.out; omega⟩, ⟨by (with_reducible repeat (first | apply Kd.R_alloc | apply Kd.R_drewN | apply Kd.R_drew)); exact Kd.R_mono (Kd.R_far (p := ⟨go56, ((ji53) : Int).toNat, none⟩) (Kd.R_mono HO_236002.out (fun k_ hk => (⟨hk, fun e_ => hk.2 (by rw [e_]; rfl)⟩ : _ ∧ k_ ≠ go56))) (fun _ hk => hk.2) (.int .i64 (rd l2 x11_3))) (fun _ hk => ⟨hk.1.1, hk.1.2⟩)⟩, ⟨by (with_reducible repeat (first | apply Kd.R_alloc | apply Kd.R_drewN | apply Kd.R_drew)); exact HQ62.out⟩, ⟨by (with_reducible repeat (first | refine bkN ?_ _ | refine bkD ?_ | refine bkA ?_ _)); refine blk_far ?_ (by have h_ := Kd.R_ne HO_249002.out BK235.out (by decide); intro e_; exact h_ (by rw [e_]; rfl)) _; (with_reducible repeat (first | refine bkN ?_ _ | refine bkD ?_ | refine bkA ?_ _)); exact BK235.out⟩, ⟨by (with_reducible repeat (first | refine bkN ?_ _ | refine bkD ?_ | refine bkA ?_ _)); refine blk_far ?_ (by have h_ := Kd.R_ne HO_249002.out BK236.out (by decide); intro e_; exact h_ (by rw [e_]; rfl)) _; (with_reducible repeat (first | refine bkN ?_ _ | refine bkD ?_ | refine bkA ?_ _)); exact BK236.out⟩, ⟨by (with_reducible repeat (first | refine bkN ?_ _ | refine bkD ?_ | refine bkA ?_ _)); refine blk_far ?_ (by have h_ := Kd.R_ne HO_249002.out BK237.out (by decide); intro e_; exact h_ (by rw [e_]; rfl)) _; (with_reducible repeat (first | refine bkN ?_ _ | refine bkD ?_ | refine bkA ?_ _)); exact BK237.out⟩, ⟨by (with_reducible repeat (first | refine bkN ?_ _ | refine bkD ?_ | refine bkA ?_ _)); refine blk_far ?_ (by have h_ := Kd.R_ne HO_249002.out BK248.out (by decide); intro e_; exact h_ (by rw [e_]; rfl)) _; (with_reducible repeat (first | refine bkN ?_ _ | refine bkD ?_ | refine bkA ?_ _)); exact BK248.out⟩, ⟨by repeat (first | (with_reducible first | exact HK.out | apply Kept.alloc | apply Kept.drewN | apply Kept.drew | refine Kept.setCell ?_ HMgo56.out _ | refine Kept.setCell ?_ (.inr GW235.out) _ | refine Kept.setCell ?_ (.inr GW236.out) _ | refine Kept.setCell ?_ (.inr GW237.out) _ | refine Kept.setCell ?_ (.inr GW248.out) _) | exact HK.out)⟩, ⟨by repeat (first | (with_reducible first | exact HB.out | apply bwA | apply bwN | apply bw1 | refine bwS ?_ GB56.out | refine bwS ?_ GE235.out | refine bwS ?_ GE236.out | refine bwS ?_ GE237.out | refine bwS ?_ GE248.out) | exact HB.out)⟩⟩
                ·rw [if_neg c55] at H
                 exact absurd H (by simp)
               ·rw [if_neg c54] at H
                exact absurd H (by simp)
              ·rw [if_neg c52] at H
               exact absurd H (by simp)
             ·rw [if_neg c51] at H
              exact absurd H (by simp)
            ·rw [if_neg c50] at H
             have c50b0 : decide (x13_3 ≤ a1_2) = false := decide_eq_false c50
             clear c50
             have H' := Ad.mk H
             clear H
             have hnb63 := NB236_235.out
             have hnc63 := NB235_236.out
             have hnb64 := NB236_237.out
             have hnc64 := NB237_236.out
             have hnb65 := NB236_248.out
             have hnc65 := NB248_236.out
             have hcz66_0 : wr.cell? ⟨gb236, 0, none⟩ = some (.int .i64 a1_0) := (bkC BK236.out 0).trans rfl
             have hcz66_1 : wr.cell? ⟨gb236, 1, none⟩ = some (.int .i64 a1_1) := (bkC BK236.out 1).trans rfl
             have hcz66_2 : wr.cell? ⟨gb236, 2, none⟩ = some (.int .i64 a1_2) := (bkC BK236.out 2).trans rfl
             have hcz66_3 : wr.cell? ⟨gb236, 3, none⟩ = some (.int .i64 a1_3) := (bkC BK236.out 3).trans rfl
             have hfz66_0 := bkF BK236.out 0
             have hfz66_1 := bkF BK236.out 1
             have hfz66_2 := bkF BK236.out 2
             have hfz66_3 := bkF BK236.out 3
             go_wp2
             go_roundg k3
             case measure => have := HK1.out; have := HK2.out; have := HK3.out; omega
             case rel => exact ⟨(x11_3), (wrap64 (x12_2 + 1)), (x236002_3), (x249002_3), (u236002), (u249002), (by first | rfl | (simp; done) | (simp [*]; done)), (by first | rfl | (simp; done) | (simp [*]; done)), H', ⟨by have := HK1.out; have := HK2.out; have := HK3.out; omega⟩, ⟨by (with_reducible repeat (first | apply Kd.R_alloc | apply Kd.R_drewN | apply Kd.R_drew)); exact HO_236002.out⟩, ⟨by (with_reducible repeat (first | apply Kd.R_alloc | apply Kd.R_drewN | apply Kd.R_drew)); exact HO_249002.out⟩, ⟨by (with_reducible repeat (first | refine bkN ?_ _ | refine bkD ?_ | refine bkA ?_ _)); exact BK235.out⟩, ⟨by (with_reducible repeat (first | refine bkN ?_ _ | refine bkD ?_ | refine bkA ?_ _)); exact BK236.out⟩, ⟨by (with_reducible repeat (first | refine bkN ?_ _ | refine bkD ?_ | refine bkA ?_ _)); exact BK237.out⟩, ⟨by (with_reducible repeat (first | refine bkN ?_ _ | refine bkD ?_ | refine bkA ?_ _)); exact BK248.out⟩, ⟨by repeat (first | (with_reducible first | exact HK.out | apply Kept.alloc | apply Kept.drewN | apply Kept.drew | refine Kept.setCell ?_ (.inr GW235.out) _ | refine Kept.setCell ?_ (.inr GW236.out) _ | refine Kept.setCell ?_ (.inr GW237.out) _ | refine Kept.setCell ?_ (.inr GW248.out) _) | exact HK.out)⟩, ⟨by repeat (first | (with_reducible first | exact HB.out | apply bwA | apply bwN | apply bw1 | refine bwS ?_ GE235.out | refine bwS ?_ GE236.out | refine bwS ?_ GE237.out | refine bwS ?_ GE248.out) | exact HB.out)⟩⟩
         ·rw [if_neg c45] at H
          have c45b0 : decide (x12_2 ≤ a1_3) = false := decide_eq_false c45
          clear c45
          simp only [Option.some.injEq, Prod.mk.injEq] at H
          obtain ⟨rfl, rfl, rfl, rfl⟩ := H
          have hnb67 := NB236_235.out
          have hnc67 := NB235_236.out
          have hnb68 := NB236_237.out
          have hnc68 := NB237_236.out
          have hnb69 := NB236_248.out
          have hnc69 := NB248_236.out
          have hcz70_0 : wr.cell? ⟨gb236, 0, none⟩ = some (.int .i64 a1_0) := (bkC BK236.out 0).trans rfl
          have hcz70_1 : wr.cell? ⟨gb236, 1, none⟩ = some (.int .i64 a1_1) := (bkC BK236.out 1).trans rfl
          have hcz70_2 : wr.cell? ⟨gb236, 2, none⟩ = some (.int .i64 a1_2) := (bkC BK236.out 2).trans rfl
          have hcz70_3 : wr.cell? ⟨gb236, 3, none⟩ = some (.int .i64 a1_3) := (bkC BK236.out 3).trans rfl
          have hfz70_0 := bkF BK236.out 0
          have hfz70_1 := bkF BK236.out 1
          have hfz70_2 := bkF BK236.out 2
          have hfz70_3 := bkF BK236.out 3
          have hnb71 := NB248_235.out
          have hnc71 := NB235_248.out
          have hnb72 := NB248_237.out
          have hnc72 := NB237_248.out
          have hcz73_0 : wr.cell? ⟨gb248, 0, none⟩ = some (.int .i64 a0_0) := (bkC BK248.out 0).trans rfl
          have hcz73_1 : wr.cell? ⟨gb248, 1, none⟩ = some (.int .i64 a0_1) := (bkC BK248.out 1).trans rfl
          have hcz73_2 : wr.cell? ⟨gb248, 2, none⟩ = some (u249002) := (bkC BK248.out 2).trans rfl
          have hfz73_0 := bkF BK248.out 0
          have hfz73_1 := bkF BK248.out 1
          have hfz73_2 := bkF BK248.out 2
          have hnb74 := NB237_235.out
          have hnc74 := NB235_237.out
          have hcz75_0 : wr.cell? ⟨gb237, 0, none⟩ = some (.int .i64 x238000_1) := (bkC BK237.out 0).trans rfl
          have hcz75_1 : wr.cell? ⟨gb237, 1, none⟩ = some (.int .i64 x238001_1) := (bkC BK237.out 1).trans rfl
          have hcz75_2 : wr.cell? ⟨gb237, 2, none⟩ = some (.slice none 0 0) := (bkC BK237.out 2).trans rfl
          have hfz75_0 := bkF BK237.out 0
          have hfz75_1 := bkF BK237.out 1
          have hfz75_2 := bkF BK237.out 2
          obtain ⟨Ao76, co76, eo76⟩ := Kd.R_slice HO_249002.out
          subst eo76
          go_wp2
          refine bodyPost_ret (results_ct rfl _ _ gb237 53 #[.int .i64 a0_0, .int .i64 a0_1, .slice Ao76 x249002_2.length co76] (0, 0) _ rfl (by (with_reducible repeat (first | refine bkN ?_ _ | refine bkD ?_ | refine bkA ?_ _)); refine blk_put (cs := #[.int .i64 a0_0, .int .i64 a0_1, .slice none 0 0]) ?_ 2 _ rfl; (with_reducible repeat (first | refine bkN ?_ _ | refine bkD ?_ | refine bkA ?_ _)); refine blk_put (cs := #[.int .i64 a0_0, .int .i64 x238001_1, .slice none 0 0]) ?_ 1 _ rfl; (with_reducible repeat (first | refine bkN ?_ _ | refine bkD ?_ | refine bkA ?_ _)); refine blk_put (cs := #[.int .i64 x238000_1, .int .i64 x238001_1, .slice none 0 0]) ?_ 0 _ rfl; (with_reducible repeat (first | refine bkN ?_ _ | refine bkD ?_ | refine bkA ?_ _)); exact BK237.out) Tryz.underlying53 rfl (by kernel_rfl)) rfl ?_
          exact ⟨_, by first | rfl | (simp [errW_none, errW_some] <;> rfl) | (simp [*, errW_none, errW_some] <;> rfl), by (with_reducible repeat (first | apply Kd.R_alloc | apply Kd.R_drewN | apply Kd.R_drew)); exact Kd.R_mono (Kd.R_far (p := ⟨gb237, 2, none⟩) (Kd.R_far (p := ⟨gb237, 1, none⟩) (Kd.R_far (p := ⟨gb237, 0, none⟩) (Kd.R_types HO_249002.out BK237.out (by decide)) (fun _ hk => hk.2) (.int .i64 a0_0)) (fun _ hk => hk.2) (.int .i64 a0_1)) (fun _ hk => hk.2) (.slice Ao76 x249002_2.length co76)) (fun _ hk => hk.1.1), by repeat (first | (with_reducible first | exact HB.out | apply bwA | apply bwN | apply bw1 | refine bwS ?_ GE235.out | refine bwS ?_ GE236.out | refine bwS ?_ GE237.out | refine bwS ?_ GE248.out) | exact HB.out), by repeat (first | (with_reducible first | exact HK.out | apply Kept.alloc | apply Kept.drewN | apply Kept.drew | refine Kept.setCell ?_ (.inr GW235.out) _ | refine Kept.setCell ?_ (.inr GW236.out) _ | refine Kept.setCell ?_ (.inr GW237.out) _ | refine Kept.setCell ?_ (.inr GW248.out) _) | exact HK.out)⟩
      ·rw [if_neg c29] at H
       exact absurd H (by simp)
  ·rw [if_neg c7] at H
   have c7b0 : ((l2.length : Int) == t239) = false := beq_eq_false_iff_ne.mpr c7
   have c7b1 : ((l2.length : Int) != t239) = true := bne_iff_ne.mpr c7
   simp only [Option.some.injEq, Prod.mk.injEq] at H
   obtain ⟨rfl, rfl, rfl, rfl⟩ := H
   obtain ⟨Ao77, co77, eo77⟩ := Kd.R_slice HO0_2.out
   subst eo77
   go_enter Tryz.func33, Tryz.ntmps33
   go_wp2_with (first | ((with_reducible refine gate_dst (N := 3) rfl ?_); refine box_event ?hg (N := 3) ?hd (cs := #[.int .i64 a0_0, .int .i64 a0_1, .slice Ao77 l0_2.length co77]) (t := 53) ?hr ?_; (case hd => rfl); (case hg => rfl); (case hr => first | (go_simp; done) | (go_simp; rfl)); intro gb235 hg w78 hbox hb; have n0_ := Ad.mk (Kd.R_below (by (with_reducible repeat (first | apply Kd.R_alloc | apply Kd.R_drewN | apply Kd.R_drew)); exact HO0_2.out) hb); have n1_ := Ad.mk (Kept.below (S := (fun k_ => P0_2_ k_)) (by repeat (first | (with_reducible first | exact HK.out | apply Kept.alloc | apply Kept.drewN | apply Kept.drew) | exact HK.out)) hb); have n2_ := Ad.mk (below_step (by repeat (first | (with_reducible first | exact HB.out | apply bwA | apply bwN | apply bw1) | exact HB.out)) hb); have n3_ := Ad.mk (hbox); have n4_ := Ad.mk ((by rw [hg]; exact (by first | exact HK.out.1 | exact (show Kept w _ (fun k_ => P0_2_ k_) from by repeat (first | (with_reducible first | exact HK.out | apply Kept.alloc | apply Kept.drewN | apply Kept.drew) | exact HK.out)).1) : w.heap.size ≤ gb235)); have n5_ := Ad.mk ((by rw [hg]; exact (below_size (by repeat (first | (with_reducible first | exact HB.out | apply bwA | apply bwN | apply bw1) | exact HB.out))) : w0.heap.size ≤ gb235)); clear HO0_2; clear HK; clear HB; have HO0_2 := n0_; have HK := n1_; have HB := n2_; have BK235 := n3_; have GW235 := n4_; have GE235 := n5_; clear n0_ n1_ n2_ n3_ n4_ n5_; clear hb hbox hg) | ((with_reducible refine gate_dst (N := 4) rfl ?_); refine box_event ?hg (N := 4) ?hd (cs := #[.int .i64 a1_0, .int .i64 a1_1, .int .i64 a1_2, .int .i64 a1_3]) (t := 23) ?hr ?_; (case hd => rfl); (case hg => rfl); (case hr => first | (go_simp; done) | (go_simp; rfl)); intro gb236 hg w79 hbox hb; have n0_ := Ad.mk (Kd.R_below (by (with_reducible repeat (first | apply Kd.R_alloc | apply Kd.R_drewN | apply Kd.R_drew)); exact HO0_2.out) hb); have n1_ := Ad.mk (blk_below (g := gb235) (o := .cells #[.int .i64 a0_0, .int .i64 a0_1, .slice Ao77 l0_2.length co77] 53 (0, 0)) (by (with_reducible repeat (first | refine bkN ?_ _ | refine bkD ?_ | refine bkA ?_ _)); exact BK235.out) hb); have n2_ := Ad.mk (Kept.below (S := (fun k_ => P0_2_ k_)) (by repeat (first | (with_reducible first | exact HK.out | apply Kept.alloc | apply Kept.drewN | apply Kept.drew | refine Kept.setCell ?_ (.inr GW235.out) _) | exact HK.out)) hb); have n3_ := Ad.mk (below_step (by repeat (first | (with_reducible first | exact HB.out | apply bwA | apply bwN | apply bw1 | refine bwS ?_ GE235.out) | exact HB.out)) hb); have n4_ := Ad.mk (hbox); have n5_ := Ad.mk ((by rw [hg]; exact (by first | exact HK.out.1 | exact (show Kept w _ (fun k_ => P0_2_ k_) from by repeat (first | (with_reducible first | exact HK.out | apply Kept.alloc | apply Kept.drewN | apply Kept.drew | refine Kept.setCell ?_ (.inr GW235.out) _) | exact HK.out)).1) : w.heap.size ≤ gb236)); have n6_ := Ad.mk ((by rw [hg]; exact (below_size (by repeat (first | (with_reducible first | exact HB.out | apply bwA | apply bwN | apply bw1 | refine bwS ?_ GE235.out) | exact HB.out))) : w0.heap.size ≤ gb236)); have n7_ := Ad.mk ((by rw [hg]; exact Nat.ne_of_lt (blk_lt (g := gb235) (o := .cells #[.int .i64 a0_0, .int .i64 a0_1, .slice Ao77 l0_2.length co77] 53 (0, 0)) (by (with_reducible repeat (first | refine bkN ?_ _ | refine bkD ?_ | refine bkA ?_ _)); exact BK235.out)) : gb235 ≠ gb236)); have n8_ := Ad.mk ((by rw [hg]; exact Nat.ne_of_gt (blk_lt (g := gb235) (o := .cells #[.int .i64 a0_0, .int .i64 a0_1, .slice Ao77 l0_2.length co77] 53 (0, 0)) (by (with_reducible repeat (first | refine bkN ?_ _ | refine bkD ?_ | refine bkA ?_ _)); exact BK235.out)) : gb236 ≠ gb235)); clear HO0_2; clear BK235; clear HK; clear HB; have HO0_2 := n0_; have BK235 := n1_; have HK := n2_; have HB := n3_; have BK236 := n4_; have GW236 := n5_; have GE236 := n6_; have NB235_236 := n7_; have NB236_235 := n8_; clear n0_ n1_ n2_ n3_ n4_ n5_ n6_ n7_ n8_; clear hb hbox hg) | ((with_reducible refine gate_dst (N := 6) rfl ?_); refine box_event ?hg (N := 6) ?hd (cs := #[.int .i64 0, .int .i64 0, .slice none 0 0]) (t := 53) ?hr ?_; (case hd => rfl); (case hg => rfl); (case hr => first | (go_simp; done) | (go_simp; rfl)); intro gb237 hg w80 hbox hb; have n0_ := Ad.mk (Kd.R_below (by (with_reducible repeat (first | apply Kd.R_alloc | apply Kd.R_drewN | apply Kd.R_drew)); exact HO0_2.out) hb); have n1_ := Ad.mk (blk_below (g := gb235) (o := .cells #[.int .i64 a0_0, .int .i64 a0_1, .slice Ao77 l0_2.length co77] 53 (0, 0)) (by (with_reducible repeat (first | refine bkN ?_ _ | refine bkD ?_ | refine bkA ?_ _)); exact BK235.out) hb); have n2_ := Ad.mk (blk_below (g := gb236) (o := .cells #[.int .i64 a1_0, .int .i64 a1_1, .int .i64 a1_2, .int .i64 a1_3] 23 (0, 0)) (by (with_reducible repeat (first | refine bkN ?_ _ | refine bkD ?_ | refine bkA ?_ _)); exact BK236.out) hb); have n3_ := Ad.mk (Kept.below (S := (fun k_ => P0_2_ k_)) (by repeat (first | (with_reducible first | exact HK.out | apply Kept.alloc | apply Kept.drewN | apply Kept.drew | refine Kept.setCell ?_ (.inr GW235.out) _ | refine Kept.setCell ?_ (.inr GW236.out) _) | exact HK.out)) hb); have n4_ := Ad.mk (below_step (by repeat (first | (with_reducible first | exact HB.out | apply bwA | apply bwN | apply bw1 | refine bwS ?_ GE235.out | refine bwS ?_ GE236.out) | exact HB.out)) hb); have n5_ := Ad.mk (hbox); have n6_ := Ad.mk ((by rw [hg]; exact (by first | exact HK.out.1 | exact (show Kept w _ (fun k_ => P0_2_ k_) from by repeat (first | (with_reducible first | exact HK.out | apply Kept.alloc | apply Kept.drewN | apply Kept.drew | refine Kept.setCell ?_ (.inr GW235.out) _ | refine Kept.setCell ?_ (.inr GW236.out) _) | exact HK.out)).1) : w.heap.size ≤ gb237)); have n7_ := Ad.mk ((by rw [hg]; exact (below_size (by repeat (first | (with_reducible first | exact HB.out | apply bwA | apply bwN | apply bw1 | refine bwS ?_ GE235.out | refine bwS ?_ GE236.out) | exact HB.out))) : w0.heap.size ≤ gb237)); have n8_ := Ad.mk ((by rw [hg]; exact Nat.ne_of_lt (blk_lt (g := gb235) (o := .cells #[.int .i64 a0_0, .int .i64 a0_1, .slice Ao77 l0_2.length co77] 53 (0, 0)) (by (with_reducible repeat (first | refine bkN ?_ _ | refine bkD ?_ | refine bkA ?_ _)); exact BK235.out)) : gb235 ≠ gb237)); have n9_ := Ad.mk ((by rw [hg]; exact Nat.ne_of_gt (blk_lt (g := gb235) (o := .cells #[.int .i64 a0_0, .int .i64 a0_1, .slice Ao77 l0_2.length co77] 53 (0, 0)) (by (with_reducible repeat (first | refine bkN ?_ _ | refine bkD ?_ | refine bkA ?_ _)); exact BK235.out)) : gb237 ≠ gb235)); have n10_ := Ad.mk ((by rw [hg]; exact Nat.ne_of_lt (blk_lt (g := gb236) (o := .cells #[.int .i64 a1_0, .int .i64 a1_1, .int .i64 a1_2, .int .i64 a1_3] 23 (0, 0)) (by (with_reducible repeat (first | refine bkN ?_ _ | refine bkD ?_ | refine bkA ?_ _)); exact BK236.out)) : gb236 ≠ gb237)); have n11_ := Ad.mk ((by rw [hg]; exact Nat.ne_of_gt (blk_lt (g := gb236) (o := .cells #[.int .i64 a1_0, .int .i64 a1_1, .int .i64 a1_2, .int .i64 a1_3] 23 (0, 0)) (by (with_reducible repeat (first | refine bkN ?_ _ | refine bkD ?_ | refine bkA ?_ _)); exact BK236.out)) : gb237 ≠ gb236)); clear HO0_2; clear BK235; clear BK236; clear HK; clear HB; have HO0_2 := n0_; have BK235 := n1_; have BK236 := n2_; have HK := n3_; have HB := n4_; have BK237 := n5_; have GW237 := n6_; have GE237 := n7_; have NB235_237 := n8_; have NB237_235 := n9_; have NB236_237 := n10_; have NB237_236 := n11_; clear n0_ n1_ n2_ n3_ n4_ n5_ n6_ n7_ n8_ n9_ n10_ n11_; clear hb hbox hg; have hnb81 := NB236_235.out; have hnc81 := NB235_236.out; have hnb82 := NB236_237.out; have hnc82 := NB237_236.out; have hcz83_0 : w80.cell? ⟨gb236, 0, none⟩ = some (.int .i64 a1_0) := (bkC BK236.out 0).trans rfl; have hcz83_1 : w80.cell? ⟨gb236, 1, none⟩ = some (.int .i64 a1_1) := (bkC BK236.out 1).trans rfl; have hcz83_2 : w80.cell? ⟨gb236, 2, none⟩ = some (.int .i64 a1_2) := (bkC BK236.out 2).trans rfl; have hcz83_3 : w80.cell? ⟨gb236, 3, none⟩ = some (.int .i64 a1_3) := (bkC BK236.out 3).trans rfl; have hfz83_0 := bkF BK236.out 0; have hfz83_1 := bkF BK236.out 1; have hfz83_2 := bkF BK236.out 2; have hfz83_3 := bkF BK236.out 3; have hnb84 := NB235_237.out; have hnc84 := NB237_235.out; have hcz85_0 : w80.cell? ⟨gb235, 0, none⟩ = some (.int .i64 a0_0) := (bkC BK235.out 0).trans rfl; have hcz85_1 : w80.cell? ⟨gb235, 1, none⟩ = some (.int .i64 a0_1) := (bkC BK235.out 1).trans rfl; have hcz85_2 : w80.cell? ⟨gb235, 2, none⟩ = some (.slice Ao77 l0_2.length co77) := (bkC BK235.out 2).trans rfl; have hfz85_0 := bkF BK235.out 0; have hfz85_1 := bkF BK235.out 1; have hfz85_2 := bkF BK235.out 2) | ((with_reducible refine gate_callee (f := 59) rfl ?_); refine goesL_ (some 19) rfl rfl Tryz.func59 (by kernel_rfl) rfl #[.agg #[.int .i64 a1_0, .int .i64 a1_1, .int .i64 a1_2, .int .i64 a1_3], .int .i64 a0_0, .int .i64 a0_1] rfl (by (try simp only [List.map_toArray, List.map_cons, List.map_nil]); first | done | rfl | (simp only [List.length_drop, List.length_take]; rfl)) ?_; (with_reducible refine (r07_Within.calls k a1_0 a1_1 a1_2 a1_3 a0_0 a0_1 t238 _ A4.out).mono ?_); rintro e w86 ⟨rfl, hb⟩; refine ⟨_, rfl, ?_⟩; have n0_ := Ad.mk (Kd.R_below (by (with_reducible repeat (first | apply Kd.R_alloc | apply Kd.R_drewN | apply Kd.R_drew)); exact HO0_2.out) hb); have n1_ := Ad.mk (blk_below (g := gb235) (o := .cells #[.int .i64 a0_0, .int .i64 a0_1, .slice Ao77 l0_2.length co77] 53 (0, 0)) (by (with_reducible repeat (first | refine bkN ?_ _ | refine bkD ?_ | refine bkA ?_ _)); exact BK235.out) hb); have n2_ := Ad.mk (blk_below (g := gb236) (o := .cells #[.int .i64 a1_0, .int .i64 a1_1, .int .i64 a1_2, .int .i64 a1_3] 23 (0, 0)) (by (with_reducible repeat (first | refine bkN ?_ _ | refine bkD ?_ | refine bkA ?_ _)); exact BK236.out) hb); have n3_ := Ad.mk (blk_below (g := gb237) (o := .cells #[.int .i64 0, .int .i64 0, .slice none 0 0] 53 (0, 0)) (by (with_reducible repeat (first | refine bkN ?_ _ | refine bkD ?_ | refine bkA ?_ _)); exact BK237.out) hb); have n4_ := Ad.mk (Kept.below (S := (fun k_ => P0_2_ k_)) (by repeat (first | (with_reducible first | exact HK.out | apply Kept.alloc | apply Kept.drewN | apply Kept.drew | refine Kept.setCell ?_ (.inr GW235.out) _ | refine Kept.setCell ?_ (.inr GW236.out) _ | refine Kept.setCell ?_ (.inr GW237.out) _) | exact HK.out)) hb); have n5_ := Ad.mk (below_step (by repeat (first | (with_reducible first | exact HB.out | apply bwA | apply bwN | apply bw1 | refine bwS ?_ GE235.out | refine bwS ?_ GE236.out | refine bwS ?_ GE237.out) | exact HB.out)) hb); clear HO0_2; clear BK235; clear BK236; clear BK237; clear HK; clear HB; have HO0_2 := n0_; have BK235 := n1_; have BK236 := n2_; have BK237 := n3_; have HK := n4_; have HB := n5_; clear n0_ n1_ n2_ n3_ n4_ n5_; (try clear hb); (try clear hb2); (try clear hk); (try clear hi); have hcz87_0 : w86.cell? ⟨gb236, 0, none⟩ = some (.int .i64 a1_0) := (bkC BK236.out 0).trans rfl; have hcz87_1 : w86.cell? ⟨gb236, 1, none⟩ = some (.int .i64 a1_1) := (bkC BK236.out 1).trans rfl; have hcz87_2 : w86.cell? ⟨gb236, 2, none⟩ = some (.int .i64 a1_2) := (bkC BK236.out 2).trans rfl; have hcz87_3 : w86.cell? ⟨gb236, 3, none⟩ = some (.int .i64 a1_3) := (bkC BK236.out 3).trans rfl; have hfz87_0 := bkF BK236.out 0; have hfz87_1 := bkF BK236.out 1; have hfz87_2 := bkF BK236.out 2; have hfz87_3 := bkF BK236.out 3) | ((with_reducible refine gate_callee (f := 60) rfl ?_); refine goesL_ (some 27) rfl rfl Tryz.func60 (by kernel_rfl) rfl #[.agg #[.int .i64 a1_0, .int .i64 a1_1, .int .i64 a1_2, .int .i64 a1_3]] rfl (by (try simp only [List.map_toArray, List.map_cons, List.map_nil]); first | done | rfl | (simp only [List.length_drop, List.length_take]; rfl)) ?_; (with_reducible refine (r07_Area.calls a1_0 a1_1 a1_2 a1_3 t239 _ A6.out).mono ?_); rintro e w88 ⟨rfl, hb⟩; refine ⟨_, rfl, ?_⟩; have n0_ := Ad.mk (Kd.R_below (by (with_reducible repeat (first | apply Kd.R_alloc | apply Kd.R_drewN | apply Kd.R_drew)); exact HO0_2.out) hb); have n1_ := Ad.mk (blk_below (g := gb235) (o := .cells #[.int .i64 a0_0, .int .i64 a0_1, .slice Ao77 l0_2.length co77] 53 (0, 0)) (by (with_reducible repeat (first | refine bkN ?_ _ | refine bkD ?_ | refine bkA ?_ _)); exact BK235.out) hb); have n2_ := Ad.mk (blk_below (g := gb236) (o := .cells #[.int .i64 a1_0, .int .i64 a1_1, .int .i64 a1_2, .int .i64 a1_3] 23 (0, 0)) (by (with_reducible repeat (first | refine bkN ?_ _ | refine bkD ?_ | refine bkA ?_ _)); exact BK236.out) hb); have n3_ := Ad.mk (blk_below (g := gb237) (o := .cells #[.int .i64 0, .int .i64 0, .slice none 0 0] 53 (0, 0)) (by (with_reducible repeat (first | refine bkN ?_ _ | refine bkD ?_ | refine bkA ?_ _)); exact BK237.out) hb); have n4_ := Ad.mk (Kept.below (S := (fun k_ => P0_2_ k_)) (by repeat (first | (with_reducible first | exact HK.out | apply Kept.alloc | apply Kept.drewN | apply Kept.drew | refine Kept.setCell ?_ (.inr GW235.out) _ | refine Kept.setCell ?_ (.inr GW236.out) _ | refine Kept.setCell ?_ (.inr GW237.out) _) | exact HK.out)) hb); have n5_ := Ad.mk (below_step (by repeat (first | (with_reducible first | exact HB.out | apply bwA | apply bwN | apply bw1 | refine bwS ?_ GE235.out | refine bwS ?_ GE236.out | refine bwS ?_ GE237.out) | exact HB.out)) hb); clear HO0_2; clear BK235; clear BK236; clear BK237; clear HK; clear HB; have HO0_2 := n0_; have BK235 := n1_; have BK236 := n2_; have BK237 := n3_; have HK := n4_; have HB := n5_; clear n0_ n1_ n2_ n3_ n4_ n5_; (try clear hb); (try clear hb2); (try clear hk); (try clear hi); have hcz89_0 : w88.cell? ⟨gb235, 0, none⟩ = some (.int .i64 a0_0) := (bkC BK235.out 0).trans rfl; have hcz89_1 : w88.cell? ⟨gb235, 1, none⟩ = some (.int .i64 a0_1) := (bkC BK235.out 1).trans rfl; have hcz89_2 : w88.cell? ⟨gb235, 2, none⟩ = some (.slice Ao77 l0_2.length co77) := (bkC BK235.out 2).trans rfl; have hfz89_0 := bkF BK235.out 0; have hfz89_1 := bkF BK235.out 1; have hfz89_2 := bkF BK235.out 2; have hcz90_0 : w88.cell? ⟨gb237, 0, none⟩ = some (.int .i64 0) := (bkC BK237.out 0).trans rfl; have hcz90_1 : w88.cell? ⟨gb237, 1, none⟩ = some (.int .i64 0) := (bkC BK237.out 1).trans rfl; have hcz90_2 : w88.cell? ⟨gb237, 2, none⟩ = some (.slice none 0 0) := (bkC BK237.out 2).trans rfl; have hfz90_0 := bkF BK237.out 0; have hfz90_1 := bkF BK237.out 1; have hfz90_2 := bkF BK237.out 2))
   refine bodyPost_ret (results_ct rfl _ _ gb237 53 #[.int .i64 a0_0, .int .i64 a0_1, .slice Ao77 l0_2.length co77] (0, 0) _ rfl (by (with_reducible repeat (first | refine bkN ?_ _ | refine bkD ?_ | refine bkA ?_ _)); refine blk_put (cs := #[.int .i64 a0_0, .int .i64 a0_1, .slice none 0 0]) ?_ 2 _ rfl; (with_reducible repeat (first | refine bkN ?_ _ | refine bkD ?_ | refine bkA ?_ _)); refine blk_put (cs := #[.int .i64 a0_0, .int .i64 0, .slice none 0 0]) ?_ 1 _ rfl; (with_reducible repeat (first | refine bkN ?_ _ | refine bkD ?_ | refine bkA ?_ _)); refine blk_put (cs := #[.int .i64 0, .int .i64 0, .slice none 0 0]) ?_ 0 _ rfl; (with_reducible repeat (first | refine bkN ?_ _ | refine bkD ?_ | refine bkA ?_ _)); exact BK237.out) Tryz.underlying53 rfl (by kernel_rfl)) rfl ?_
   exact ⟨_, by first | rfl | (simp [errW_none, errW_some] <;> rfl) | (simp [*, errW_none, errW_some] <;> rfl), by (with_reducible repeat (first | apply Kd.R_alloc | apply Kd.R_drewN | apply Kd.R_drew)); exact Kd.R_mono (Kd.R_far (p := ⟨gb237, 2, none⟩) (Kd.R_far (p := ⟨gb237, 1, none⟩) (Kd.R_far (p := ⟨gb237, 0, none⟩) (Kd.R_types HO0_2.out BK237.out (by decide)) (fun _ hk => hk.2) (.int .i64 a0_0)) (fun _ hk => hk.2) (.int .i64 a0_1)) (fun _ hk => hk.2) (.slice Ao77 l0_2.length co77)) (fun _ hk => hk.1), by repeat (first | (with_reducible first | exact HB.out | apply bwA | apply bwN | apply bw1 | refine bwS ?_ GE235.out | refine bwS ?_ GE236.out | refine bwS ?_ GE237.out) | exact HB.out), by repeat (first | (with_reducible first | exact HK.out | apply Kept.alloc | apply Kept.drewN | apply Kept.drew | refine Kept.setCell ?_ (.inr GW235.out) _ | refine Kept.setCell ?_ (.inr GW236.out) _ | refine Kept.setCell ?_ (.inr GW237.out) _) | exact HK.out)⟩
 ·rw [if_neg c5] at H
  have c5b0 : (t238 == 0) = false := beq_eq_false_iff_ne.mpr c5
  have c5b1 : (t238 != 0) = true := bne_iff_ne.mpr c5
  simp only [Option.some.injEq, Prod.mk.injEq] at H
  obtain ⟨rfl, rfl, rfl, rfl⟩ := H
  obtain ⟨Ao91, co91, eo91⟩ := Kd.R_slice HO0_2.out
  subst eo91
  go_enter Tryz.func33, Tryz.ntmps33
  go_wp2_with (first | ((with_reducible refine gate_dst (N := 3) rfl ?_); refine box_event ?hg (N := 3) ?hd (cs := #[.int .i64 a0_0, .int .i64 a0_1, .slice Ao91 l0_2.length co91]) (t := 53) ?hr ?_; (case hd => rfl); (case hg => rfl); (case hr => first | (go_simp; done) | (go_simp; rfl)); intro gb235 hg w92 hbox hb; have n0_ := Ad.mk (Kd.R_below (by (with_reducible repeat (first | apply Kd.R_alloc | apply Kd.R_drewN | apply Kd.R_drew)); exact HO0_2.out) hb); have n1_ := Ad.mk (Kept.below (S := (fun k_ => P0_2_ k_)) (by repeat (first | (with_reducible first | exact HK.out | apply Kept.alloc | apply Kept.drewN | apply Kept.drew) | exact HK.out)) hb); have n2_ := Ad.mk (below_step (by repeat (first | (with_reducible first | exact HB.out | apply bwA | apply bwN | apply bw1) | exact HB.out)) hb); have n3_ := Ad.mk (hbox); have n4_ := Ad.mk ((by rw [hg]; exact (by first | exact HK.out.1 | exact (show Kept w _ (fun k_ => P0_2_ k_) from by repeat (first | (with_reducible first | exact HK.out | apply Kept.alloc | apply Kept.drewN | apply Kept.drew) | exact HK.out)).1) : w.heap.size ≤ gb235)); have n5_ := Ad.mk ((by rw [hg]; exact (below_size (by repeat (first | (with_reducible first | exact HB.out | apply bwA | apply bwN | apply bw1) | exact HB.out))) : w0.heap.size ≤ gb235)); clear HO0_2; clear HK; clear HB; have HO0_2 := n0_; have HK := n1_; have HB := n2_; have BK235 := n3_; have GW235 := n4_; have GE235 := n5_; clear n0_ n1_ n2_ n3_ n4_ n5_; clear hb hbox hg) | ((with_reducible refine gate_dst (N := 4) rfl ?_); refine box_event ?hg (N := 4) ?hd (cs := #[.int .i64 a1_0, .int .i64 a1_1, .int .i64 a1_2, .int .i64 a1_3]) (t := 23) ?hr ?_; (case hd => rfl); (case hg => rfl); (case hr => first | (go_simp; done) | (go_simp; rfl)); intro gb236 hg w93 hbox hb; have n0_ := Ad.mk (Kd.R_below (by (with_reducible repeat (first | apply Kd.R_alloc | apply Kd.R_drewN | apply Kd.R_drew)); exact HO0_2.out) hb); have n1_ := Ad.mk (blk_below (g := gb235) (o := .cells #[.int .i64 a0_0, .int .i64 a0_1, .slice Ao91 l0_2.length co91] 53 (0, 0)) (by (with_reducible repeat (first | refine bkN ?_ _ | refine bkD ?_ | refine bkA ?_ _)); exact BK235.out) hb); have n2_ := Ad.mk (Kept.below (S := (fun k_ => P0_2_ k_)) (by repeat (first | (with_reducible first | exact HK.out | apply Kept.alloc | apply Kept.drewN | apply Kept.drew | refine Kept.setCell ?_ (.inr GW235.out) _) | exact HK.out)) hb); have n3_ := Ad.mk (below_step (by repeat (first | (with_reducible first | exact HB.out | apply bwA | apply bwN | apply bw1 | refine bwS ?_ GE235.out) | exact HB.out)) hb); have n4_ := Ad.mk (hbox); have n5_ := Ad.mk ((by rw [hg]; exact (by first | exact HK.out.1 | exact (show Kept w _ (fun k_ => P0_2_ k_) from by repeat (first | (with_reducible first | exact HK.out | apply Kept.alloc | apply Kept.drewN | apply Kept.drew | refine Kept.setCell ?_ (.inr GW235.out) _) | exact HK.out)).1) : w.heap.size ≤ gb236)); have n6_ := Ad.mk ((by rw [hg]; exact (below_size (by repeat (first | (with_reducible first | exact HB.out | apply bwA | apply bwN | apply bw1 | refine bwS ?_ GE235.out) | exact HB.out))) : w0.heap.size ≤ gb236)); have n7_ := Ad.mk ((by rw [hg]; exact Nat.ne_of_lt (blk_lt (g := gb235) (o := .cells #[.int .i64 a0_0, .int .i64 a0_1, .slice Ao91 l0_2.length co91] 53 (0, 0)) (by (with_reducible repeat (first | refine bkN ?_ _ | refine bkD ?_ | refine bkA ?_ _)); exact BK235.out)) : gb235 ≠ gb236)); have n8_ := Ad.mk ((by rw [hg]; exact Nat.ne_of_gt (blk_lt (g := gb235) (o := .cells #[.int .i64 a0_0, .int .i64 a0_1, .slice Ao91 l0_2.length co91] 53 (0, 0)) (by (with_reducible repeat (first | refine bkN ?_ _ | refine bkD ?_ | refine bkA ?_ _)); exact BK235.out)) : gb236 ≠ gb235)); clear HO0_2; clear BK235; clear HK; clear HB; have HO0_2 := n0_; have BK235 := n1_; have HK := n2_; have HB := n3_; have BK236 := n4_; have GW236 := n5_; have GE236 := n6_; have NB235_236 := n7_; have NB236_235 := n8_; clear n0_ n1_ n2_ n3_ n4_ n5_ n6_ n7_ n8_; clear hb hbox hg) | ((with_reducible refine gate_dst (N := 6) rfl ?_); refine box_event ?hg (N := 6) ?hd (cs := #[.int .i64 0, .int .i64 0, .slice none 0 0]) (t := 53) ?hr ?_; (case hd => rfl); (case hg => rfl); (case hr => first | (go_simp; done) | (go_simp; rfl)); intro gb237 hg w94 hbox hb; have n0_ := Ad.mk (Kd.R_below (by (with_reducible repeat (first | apply Kd.R_alloc | apply Kd.R_drewN | apply Kd.R_drew)); exact HO0_2.out) hb); have n1_ := Ad.mk (blk_below (g := gb235) (o := .cells #[.int .i64 a0_0, .int .i64 a0_1, .slice Ao91 l0_2.length co91] 53 (0, 0)) (by (with_reducible repeat (first | refine bkN ?_ _ | refine bkD ?_ | refine bkA ?_ _)); exact BK235.out) hb); have n2_ := Ad.mk (blk_below (g := gb236) (o := .cells #[.int .i64 a1_0, .int .i64 a1_1, .int .i64 a1_2, .int .i64 a1_3] 23 (0, 0)) (by (with_reducible repeat (first | refine bkN ?_ _ | refine bkD ?_ | refine bkA ?_ _)); exact BK236.out) hb); have n3_ := Ad.mk (Kept.below (S := (fun k_ => P0_2_ k_)) (by repeat (first | (with_reducible first | exact HK.out | apply Kept.alloc | apply Kept.drewN | apply Kept.drew | refine Kept.setCell ?_ (.inr GW235.out) _ | refine Kept.setCell ?_ (.inr GW236.out) _) | exact HK.out)) hb); have n4_ := Ad.mk (below_step (by repeat (first | (with_reducible first | exact HB.out | apply bwA | apply bwN | apply bw1 | refine bwS ?_ GE235.out | refine bwS ?_ GE236.out) | exact HB.out)) hb); have n5_ := Ad.mk (hbox); have n6_ := Ad.mk ((by rw [hg]; exact (by first | exact HK.out.1 | exact (show Kept w _ (fun k_ => P0_2_ k_) from by repeat (first | (with_reducible first | exact HK.out | apply Kept.alloc | apply Kept.drewN | apply Kept.drew | refine Kept.setCell ?_ (.inr GW235.out) _ | refine Kept.setCell ?_ (.inr GW236.out) _) | exact HK.out)).1) : w.heap.size ≤ gb237)); have n7_ := Ad.mk ((by rw [hg]; exact (below_size (by repeat (first | (with_reducible first | exact HB.out | apply bwA | apply bwN | apply bw1 | refine bwS ?_ GE235.out | refine bwS ?_ GE236.out) | exact HB.out))) : w0.heap.size ≤ gb237)); have n8_ := Ad.mk ((by rw [hg]; exact Nat.ne_of_lt (blk_lt (g := gb235) (o := .cells #[.int .i64 a0_0, .int .i64 a0_1, .slice Ao91 l0_2.length co91] 53 (0, 0)) (by (with_reducible repeat (first | refine bkN ?_ _ | refine bkD ?_ | refine bkA ?_ _)); exact BK235.out)) : gb235 ≠ gb237)); have n9_ := Ad.mk ((by rw [hg]; exact Nat.ne_of_gt (blk_lt (g := gb235) (o := .cells #[.int .i64 a0_0, .int .i64 a0_1, .slice Ao91 l0_2.length co91] 53 (0, 0)) (by (with_reducible repeat (first | refine bkN ?_ _ | refine bkD ?_ | refine bkA ?_ _)); exact BK235.out)) : gb237 ≠ gb235)); have n10_ := Ad.mk ((by rw [hg]; exact Nat.ne_of_lt (blk_lt (g := gb236) (o := .cells #[.int .i64 a1_0, .int .i64 a1_1, .int .i64 a1_2, .int .i64 a1_3] 23 (0, 0)) (by (with_reducible repeat (first | refine bkN ?_ _ | refine bkD ?_ | refine bkA ?_ _)); exact BK236.out)) : gb236 ≠ gb237)); have n11_ := Ad.mk ((by rw [hg]; exact Nat.ne_of_gt (blk_lt (g := gb236) (o := .cells #[.int .i64 a1_0, .int .i64 a1_1, .int .i64 a1_2, .int .i64 a1_3] 23 (0, 0)) (by (with_reducible repeat (first | refine bkN ?_ _ | refine bkD ?_ | refine bkA ?_ _)); exact BK236.out)) : gb237 ≠ gb236)); clear HO0_2; clear BK235; clear BK236; clear HK; clear HB; have HO0_2 := n0_; have BK235 := n1_; have BK236 := n2_; have HK := n3_; have HB := n4_; have BK237 := n5_; have GW237 := n6_; have GE237 := n7_; have NB235_237 := n8_; have NB237_235 := n9_; have NB236_237 := n10_; have NB237_236 := n11_; clear n0_ n1_ n2_ n3_ n4_ n5_ n6_ n7_ n8_ n9_ n10_ n11_; clear hb hbox hg; have hnb95 := NB236_235.out; have hnc95 := NB235_236.out; have hnb96 := NB236_237.out; have hnc96 := NB237_236.out; have hcz97_0 : w94.cell? ⟨gb236, 0, none⟩ = some (.int .i64 a1_0) := (bkC BK236.out 0).trans rfl; have hcz97_1 : w94.cell? ⟨gb236, 1, none⟩ = some (.int .i64 a1_1) := (bkC BK236.out 1).trans rfl; have hcz97_2 : w94.cell? ⟨gb236, 2, none⟩ = some (.int .i64 a1_2) := (bkC BK236.out 2).trans rfl; have hcz97_3 : w94.cell? ⟨gb236, 3, none⟩ = some (.int .i64 a1_3) := (bkC BK236.out 3).trans rfl; have hfz97_0 := bkF BK236.out 0; have hfz97_1 := bkF BK236.out 1; have hfz97_2 := bkF BK236.out 2; have hfz97_3 := bkF BK236.out 3; have hnb98 := NB235_237.out; have hnc98 := NB237_235.out; have hcz99_0 : w94.cell? ⟨gb235, 0, none⟩ = some (.int .i64 a0_0) := (bkC BK235.out 0).trans rfl; have hcz99_1 : w94.cell? ⟨gb235, 1, none⟩ = some (.int .i64 a0_1) := (bkC BK235.out 1).trans rfl; have hcz99_2 : w94.cell? ⟨gb235, 2, none⟩ = some (.slice Ao91 l0_2.length co91) := (bkC BK235.out 2).trans rfl; have hfz99_0 := bkF BK235.out 0; have hfz99_1 := bkF BK235.out 1; have hfz99_2 := bkF BK235.out 2) | ((with_reducible refine gate_callee (f := 59) rfl ?_); refine goesL_ (some 19) rfl rfl Tryz.func59 (by kernel_rfl) rfl #[.agg #[.int .i64 a1_0, .int .i64 a1_1, .int .i64 a1_2, .int .i64 a1_3], .int .i64 a0_0, .int .i64 a0_1] rfl (by (try simp only [List.map_toArray, List.map_cons, List.map_nil]); first | done | rfl | (simp only [List.length_drop, List.length_take]; rfl)) ?_; (with_reducible refine (r07_Within.calls k a1_0 a1_1 a1_2 a1_3 a0_0 a0_1 t238 _ A4.out).mono ?_); rintro e w100 ⟨rfl, hb⟩; refine ⟨_, rfl, ?_⟩; have n0_ := Ad.mk (Kd.R_below (by (with_reducible repeat (first | apply Kd.R_alloc | apply Kd.R_drewN | apply Kd.R_drew)); exact HO0_2.out) hb); have n1_ := Ad.mk (blk_below (g := gb235) (o := .cells #[.int .i64 a0_0, .int .i64 a0_1, .slice Ao91 l0_2.length co91] 53 (0, 0)) (by (with_reducible repeat (first | refine bkN ?_ _ | refine bkD ?_ | refine bkA ?_ _)); exact BK235.out) hb); have n2_ := Ad.mk (blk_below (g := gb236) (o := .cells #[.int .i64 a1_0, .int .i64 a1_1, .int .i64 a1_2, .int .i64 a1_3] 23 (0, 0)) (by (with_reducible repeat (first | refine bkN ?_ _ | refine bkD ?_ | refine bkA ?_ _)); exact BK236.out) hb); have n3_ := Ad.mk (blk_below (g := gb237) (o := .cells #[.int .i64 0, .int .i64 0, .slice none 0 0] 53 (0, 0)) (by (with_reducible repeat (first | refine bkN ?_ _ | refine bkD ?_ | refine bkA ?_ _)); exact BK237.out) hb); have n4_ := Ad.mk (Kept.below (S := (fun k_ => P0_2_ k_)) (by repeat (first | (with_reducible first | exact HK.out | apply Kept.alloc | apply Kept.drewN | apply Kept.drew | refine Kept.setCell ?_ (.inr GW235.out) _ | refine Kept.setCell ?_ (.inr GW236.out) _ | refine Kept.setCell ?_ (.inr GW237.out) _) | exact HK.out)) hb); have n5_ := Ad.mk (below_step (by repeat (first | (with_reducible first | exact HB.out | apply bwA | apply bwN | apply bw1 | refine bwS ?_ GE235.out | refine bwS ?_ GE236.out | refine bwS ?_ GE237.out) | exact HB.out)) hb); clear HO0_2; clear BK235; clear BK236; clear BK237; clear HK; clear HB; have HO0_2 := n0_; have BK235 := n1_; have BK236 := n2_; have BK237 := n3_; have HK := n4_; have HB := n5_; clear n0_ n1_ n2_ n3_ n4_ n5_; (try clear hb); (try clear hb2); (try clear hk); (try clear hi); have hcz101_0 : w100.cell? ⟨gb235, 0, none⟩ = some (.int .i64 a0_0) := (bkC BK235.out 0).trans rfl; have hcz101_1 : w100.cell? ⟨gb235, 1, none⟩ = some (.int .i64 a0_1) := (bkC BK235.out 1).trans rfl; have hcz101_2 : w100.cell? ⟨gb235, 2, none⟩ = some (.slice Ao91 l0_2.length co91) := (bkC BK235.out 2).trans rfl; have hfz101_0 := bkF BK235.out 0; have hfz101_1 := bkF BK235.out 1; have hfz101_2 := bkF BK235.out 2; have hcz102_0 : w100.cell? ⟨gb237, 0, none⟩ = some (.int .i64 0) := (bkC BK237.out 0).trans rfl; have hcz102_1 : w100.cell? ⟨gb237, 1, none⟩ = some (.int .i64 0) := (bkC BK237.out 1).trans rfl; have hcz102_2 : w100.cell? ⟨gb237, 2, none⟩ = some (.slice none 0 0) := (bkC BK237.out 2).trans rfl; have hfz102_0 := bkF BK237.out 0; have hfz102_1 := bkF BK237.out 1; have hfz102_2 := bkF BK237.out 2))
  refine bodyPost_ret (results_ct rfl _ _ gb237 53 #[.int .i64 a0_0, .int .i64 a0_1, .slice Ao91 l0_2.length co91] (0, 0) _ rfl (by (with_reducible repeat (first | refine bkN ?_ _ | refine bkD ?_ | refine bkA ?_ _)); refine blk_put (cs := #[.int .i64 a0_0, .int .i64 a0_1, .slice none 0 0]) ?_ 2 _ rfl; (with_reducible repeat (first | refine bkN ?_ _ | refine bkD ?_ | refine bkA ?_ _)); refine blk_put (cs := #[.int .i64 a0_0, .int .i64 0, .slice none 0 0]) ?_ 1 _ rfl; (with_reducible repeat (first | refine bkN ?_ _ | refine bkD ?_ | refine bkA ?_ _)); refine blk_put (cs := #[.int .i64 0, .int .i64 0, .slice none 0 0]) ?_ 0 _ rfl; (with_reducible repeat (first | refine bkN ?_ _ | refine bkD ?_ | refine bkA ?_ _)); exact BK237.out) Tryz.underlying53 rfl (by kernel_rfl)) rfl ?_
  exact ⟨_, by first | rfl | (simp [errW_none, errW_some] <;> rfl) | (simp [*, errW_none, errW_some] <;> rfl), by (with_reducible repeat (first | apply Kd.R_alloc | apply Kd.R_drewN | apply Kd.R_drew)); exact Kd.R_mono (Kd.R_far (p := ⟨gb237, 2, none⟩) (Kd.R_far (p := ⟨gb237, 1, none⟩) (Kd.R_far (p := ⟨gb237, 0, none⟩) (Kd.R_types HO0_2.out BK237.out (by decide)) (fun _ hk => hk.2) (.int .i64 a0_0)) (fun _ hk => hk.2) (.int .i64 a0_1)) (fun _ hk => hk.2) (.slice Ao91 l0_2.length co91)) (fun _ hk => hk.1), by repeat (first | (with_reducible first | exact HB.out | apply bwA | apply bwN | apply bw1 | refine bwS ?_ GE235.out | refine bwS ?_ GE236.out | refine bwS ?_ GE237.out) | exact HB.out), by repeat (first | (with_reducible first | exact HK.out | apply Kept.alloc | apply Kept.drewN | apply Kept.drew | refine Kept.setCell ?_ (.inr GW235.out) _ | refine Kept.setCell ?_ (.inr GW236.out) _ | refine Kept.setCell ?_ (.inr GW237.out) _) | exact HK.out)⟩
end Go.Proofs.YthnndjlccepebaaGreatDoor.PHeavy
namespace Go.Proofs.YthnndjlccepebaaGreatDoor.PHeavy
open Go.RowKit Go.Proofs.YthnndjlccepebaaGreatDoorW.PrintWords Go.Proofs.YthnndjlccepebaaGreatDoorW.PrintLast

def r14_Load.l0 : Nat → List Int → List (S95) → List (S23) → List Int → Int → Int → Int → Int → Int → Int → List Int → Option (Int × Int × List Int × List Int × Bool)
 | 0, _, _, _, _, _, _, _, _, _, _, _ => none
 | k + 1, x6, x10, x14, x15, x16, x17, x253000, x253001, x270000, x270001, x270002 => if x17 < (x14.length : Int) then (if 0 ≤ x17 then (if x17 < (x10.length : Int) then (if (wrap64 (((rd_T95 x10 x17).f0) + ((rd_T95 x10 x17).f1))) > (x6.length : Int) then (some (x253000, x253001, ([] : List Int), ([] : List Int), false)) else ((r14_size.f ((rd_T23 x14 x17).f0) ((rd_T23 x14 x17).f1) ((rd_T23 x14 x17).f2) ((rd_T23 x14 x17).f3)).bind fun bt279 => (if 0 ≤ ((rd_T95 x10 x17).f0) then (if ((rd_T95 x10 x17).f0) ≤ (wrap64 (((rd_T95 x10 x17).f0) + ((rd_T95 x10 x17).f1))) then (if (wrap64 (((rd_T95 x10 x17).f0) + ((rd_T95 x10 x17).f1))) ≤ (x6.length : Int) then ((r06_Get.f k ((x6.take ((wrap64 (((rd_T95 x10 x17).f0) + ((rd_T95 x10 x17).f1))) : Int).toNat).drop (((rd_T95 x10 x17).f0) : Int).toNat) bt279.1 bt279.2).bind fun bt288 => (if bt288.2.2 = 0 then ((r09_Paste.f k x270000 x270001 x270002 ((rd_T23 x14 x17).f0) ((rd_T23 x14 x17).f1) ((rd_T23 x14 x17).f2) ((rd_T23 x14 x17).f3) bt288.1).bind fun bt294 => (if x15.length < 17592186044416 then (r14_Load.l0 k x6 x10 x14 (x15 ++ [bt288.2.1]) (wrap64 (((rd_T95 x10 x17).f0) + ((rd_T95 x10 x17).f1))) (wrap64 (x17 + 1)) x253000 x253001 bt294.1 bt294.2.1 bt294.2.2.1) else (none))) else (some (x253000, x253001, ([] : List Int), ([] : List Int), false)))) else (none)) else (none)) else (none)))) else (none)) else (none)) else (if x16 = (x6.length : Int) then (some (x270000, x270001, x270002, x15, true)) else (some (x253000, x253001, ([] : List Int), ([] : List Int), false)))
def r14_Load.f (k : Nat) (l0 : List Int) : Option (Int × Int × List Int × List Int × Bool) := (r03_Open.f k l0).bind fun bt253 => (if bt253.2 = 0 then ((r13_Get.f k bt253.1).bind fun bt257 => (if bt257.2.2.2 = 0 then ((r09_New.f k bt257.1 bt257.2.1 0).bind fun bt263 => ((r09_Tiles.f k bt263.1 bt263.2.1 bt263.2.2.1).bind fun t270 => (r14_Load.l0 k bt253.1 bt257.2.2.1 t270 (([] : List Int)) 0 0 0 0 bt263.1 bt263.2.1 bt263.2.2.1))) else (some (0, 0, ([] : List Int), ([] : List Int), false)))) else (some (0, 0, ([] : List Int), ([] : List Int), false)))
def r14_Load.T15 : Bool × List (List Nat × List Nat) := (true, [([], []), ([], []), ([0, 1], [0, 1]), ([2], [2]), ([3], [3]), ([], []), ([], []), ([5, 6], [5, 6]), ([7], [7]), ([8], [8]), ([4, 9], [4, 9]), ([], []), ([11], [11]), ([10, 12], [10, 12])])
def r14_Load.B15 : List Nat := [0, 0, 3, 7, 15, 0, 0, 96, 224, 480, 1023, 0, 2048, 8191]
theorem r14_Load.tab15 : rtab .any (opsOf Tryz.f14 15) = r14_Load.T15 := by kernel_rfl
theorem r14_Load.bits15 : waitsOk r14_Load.T15.2 r14_Load.B15 = true := by kernel_rfl
def r14_Load.T18 : Bool × List (List Nat × List Nat) := (true, [([], []), ([], []), ([], []), ([1, 2], [1, 2]), ([3], [3]), ([4], [4]), ([], []), ([], []), ([6, 7], [6, 7]), ([8], [8]), ([9], [9]), ([], []), ([], []), ([11, 12], [11, 12]), ([13], [13]), ([14], [14]), ([10, 15], [10, 15]), ([0, 5, 16], [0, 5, 16]), ([], []), ([], []), ([17, 18, 19], [17, 18, 19]), ([20], [20]), ([21], [21]), ([21], [21]), ([21], [21]), ([22, 20, 0, 1, 2, 3, 4, 5, 6, 7, 8, 9, 10, 11, 12, 13, 14, 15, 16, 17, 18, 19, 20, 21, 22], [22]), ([23, 25, 0, 1, 2, 3, 4, 5, 6, 7, 8, 9, 10, 11, 12, 13, 14, 15, 16, 17, 18, 19, 20, 21, 22, 23, 25], [23]), ([24, 26, 0, 1, 2, 3, 4, 5, 6, 7, 8, 9, 10, 11, 12, 13, 14, 15, 16, 17, 18, 19, 20, 21, 22, 23, 24, 25, 26], [24])])
def r14_Load.B18 : List Nat := [0, 0, 0, 6, 14, 30, 0, 0, 192, 448, 960, 0, 0, 6144, 14336, 30720, 65472, 131071, 0, 0, 1048575, 2097151, 4194303, 4194303, 4194303, 8388607, 50331647, 134217727]
theorem r14_Load.tab18 : rtab .any (opsOf Tryz.f14 18) = r14_Load.T18 := by kernel_rfl
theorem r14_Load.bits18 : waitsOk r14_Load.T18.2 r14_Load.B18 = true := by kernel_rfl
def r14_Load.T21 : Bool × List (List Nat × List Nat) := (true, [([], []), ([], []), ([], []), ([1, 2], [1, 2]), ([3], [3]), ([], []), ([0, 4, 5], [0, 4, 5]), ([6], [6]), ([7], [7]), ([7], [7]), ([8, 6, 0, 1, 2, 3, 4, 5, 6, 7, 8], [8])])
def r14_Load.B21 : List Nat := [0, 0, 0, 6, 14, 0, 63, 127, 255, 255, 511]
theorem r14_Load.tab21 : rtab .any (opsOf Tryz.f14 21) = r14_Load.T21 := by kernel_rfl
theorem r14_Load.bits21 : waitsOk r14_Load.T21.2 r14_Load.B21 = true := by kernel_rfl
def r14_Load.T23 : Bool × List (List Nat × List Nat) := (true, [([], []), ([], []), ([0, 1], [0, 1]), ([2], [2]), ([3], [3]), ([], []), ([], []), ([5, 6], [5, 6]), ([7], [7]), ([8], [8]), ([4, 9], [4, 9]), ([10, 0, 1, 2, 3, 4, 5, 6, 7, 8, 9, 10], [10])])
def r14_Load.B23 : List Nat := [0, 0, 3, 7, 15, 0, 0, 96, 224, 480, 1023, 2047]
theorem r14_Load.tab23 : rtab .any (opsOf Tryz.f14 23) = r14_Load.T23 := by kernel_rfl
theorem r14_Load.bits23 : waitsOk r14_Load.T23.2 r14_Load.B23 = true := by kernel_rfl
end Go.Proofs.YthnndjlccepebaaGreatDoor.PHeavy
