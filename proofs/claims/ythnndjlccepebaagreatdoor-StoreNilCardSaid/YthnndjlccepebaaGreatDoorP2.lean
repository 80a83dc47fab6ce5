/- Contracts of the reference functions, second part (after the print). -/
import Derived.Test.YthnndjlccepebaaGreatDoorP1
set_option linter.unusedVariables false
set_option linter.unusedSimpArgs false
namespace Go.Proofs.YthnndjlccepebaaGreatDoor.PHeavy
open Go.RowKit Go.Proofs.YthnndjlccepebaaGreatDoorW.PrintWords Go.Proofs.YthnndjlccepebaaGreatDoorW.PrintLast

mutual
def r07_Pieces.l0 : Nat → List (S23) → Int → Int → Int → Int → Int → Option ((List (S23)))
 | 0, _, _, _, _, _, _ => none
 | k + 1, x3, x4, x132000, x132001, x132002, x132003 => if x4 < 64 then (r07_Pieces.l1 k x3 x4 0 x132000 x132001 x132002 x132003) else (some x3)
def r07_Pieces.l1 : Nat → List (S23) → Int → Int → Int → Int → Int → Int → Option ((List (S23)))
 | 0, _, _, _, _, _, _, _ => none
 | k + 1, x3, x4, x5, x132000, x132001, x132002, x132003 => if x5 < 64 then ((r07_Meet.f k x132000 x132001 x132002 x132003 (wrap64 (16 * x5)) (wrap64 (16 * x4)) (wrap64 ((wrap64 (16 * x5)) + 15)) (wrap64 ((wrap64 (16 * x4)) + 15))).bind fun bt135 => (if bt135.2.2.2.2 = true then (if x3.length < 4398046511104 then (r07_Pieces.l1 k (x3 ++ [(⟨bt135.1, bt135.2.1, bt135.2.2.1, bt135.2.2.2.1⟩ : S23)]) x4 (wrap64 (x5 + 1)) x132000 x132001 x132002 x132003) else (none)) else (r07_Pieces.l1 k x3 x4 (wrap64 (x5 + 1)) x132000 x132001 x132002 x132003))) else (r07_Pieces.l0 k x3 (wrap64 (x4 + 1)) x132000 x132001 x132002 x132003)
end
def r07_Pieces.f (k : Nat) (a0_0 : Int) (a0_1 : Int) (a0_2 : Int) (a0_3 : Int) : Option ((List (S23))) := r07_Pieces.l0 k (([] : List (S23))) 0 a0_0 a0_1 a0_2 a0_3
set_option maxHeartbeats 8000000 in
set_option maxRecDepth 100000 in
theorem r07_Pieces.calls (k : Nat) (a0_0 : Int) (a0_1 : Int) (a0_2 : Int) (a0_3 : Int) (r : List (S23)) (w : World) (h : r07_Pieces.f k a0_0 a0_1 a0_2 a0_3 = some r) :
  Calls Tryz.prog 54 #[.agg #[.int .i64 a0_0, .int .i64 a0_1, .int .i64 a0_2, .int .i64 a0_3]] w fun e w' => ∃ v0_ : Value, e = .returned (v0_) ∧ Kd.R k23 23 w' w.heap.size (fun _ => True) v0_ r ∧ Below w.heap.size w w' := by
 have hu23 := Tryz.underlying23
 have HB := Ad.mk (Below.refl w.heap.size w)
 have H : (r07_Pieces.l0 k (([] : List (S23))) 0 a0_0 a0_1 a0_2 a0_3) = some r := h
 clear h
 obtain ⟨y132, hy132⟩ : ∃ y_ : List (S23), y_ = (([] : List (S23))) := ⟨_, rfl⟩
 replace H : (r07_Pieces.l0 k y132 0 a0_0 a0_1 a0_2 a0_3) = some r := by first | (rw [hy132]; with_reducible exact H) | (have H2_ := (Option.bind_some _ _).symm.trans H; rw [hy132]; with_reducible exact H2_) | (have H2_ := (Option.bind_some _ _).symm.trans H; with_reducible exact H2_) | with_reducible exact H | (rw [hy132]; exact H) | exact H
 have Ny132 := Ad.mk hy132
 clear hy132
 have H' := Ad.mk H
 clear H
 go_enter Tryz.func54, Tryz.ntmps54
 go_wp2_with (first | ((with_reducible refine gate_dst (N := 1) rfl ?_); refine box_event ?hg (N := 1) ?hd (cs := #[.int .i64 a0_0, .int .i64 a0_1, .int .i64 a0_2, .int .i64 a0_3]) (t := 23) ?hr ?_; (case hd => rfl); (case hg => rfl); (case hr => first | (go_simp; done) | (go_simp; rfl)); intro gb131 hg w2 hbox hb; have n0_ := Ad.mk (below_step (by repeat (first | (with_reducible first | exact HB.out | apply bwA | apply bwN | apply bw1) | exact HB.out)) hb); have n1_ := Ad.mk (hbox); have n2_ := Ad.mk ((by rw [hg]; exact (below_size (by repeat (first | (with_reducible first | exact HB.out | apply bwA | apply bwN | apply bw1) | exact HB.out))) : w.heap.size ≤ gb131)); have n3_ := Ad.mk ((by rw [hg]; exact (below_size (by repeat (first | (with_reducible first | exact HB.out | apply bwA | apply bwN | apply bw1) | exact HB.out))) : w.heap.size ≤ gb131)); clear HB; have HB := n0_; have BK131 := n1_; have GW131 := n2_; have GE131 := n3_; clear n0_ n1_ n2_ n3_; clear hb hbox hg) | ((with_reducible refine gate_dst (N := 8) rfl ?_); refine Kd.R_lit k23 _ 23 ?hg (N := 8) ?hd (xs := ([] : List (S23))) (inner := []) (ok := fun _ => True) (okp := fun _ => True) ?hr ?hp (fun _ hk => hk) trivial (Below.refl _ _) (Nat.le_refl _) (by simp) ?_; (case hd => rfl); (case hg => rfl); (case hr => first | (go_simp; done) | (go_simp; rfl)); (case hp => exact (Reps.none _ _)); intro v133 w3 ho4 hb hg_ hnew_; clear hg_ hnew_; (first | rw [← Ny132.out] at ho4 | (simp only [Int.reduceToNat] at ho4; rw [← Ny132.out] at ho4)); have n0_ := Ad.mk (Kd.R_lower (Kd.R_newB ho4 (g := gb131) (o := .cells #[.int .i64 a0_0, .int .i64 a0_1, .int .i64 a0_2, .int .i64 a0_3] 23 (0, 0)) (by (with_reducible repeat (first | refine bkN ?_ _ | refine bkD ?_ | refine bkA ?_ _)); exact BK131.out)) (below_size (by repeat (first | (with_reducible first | exact HB.out | apply bwA | apply bwN | apply bw1 | refine bwS ?_ GE131.out) | exact HB.out)))); have n1_ := Ad.mk (blk_below (g := gb131) (o := .cells #[.int .i64 a0_0, .int .i64 a0_1, .int .i64 a0_2, .int .i64 a0_3] 23 (0, 0)) (by (with_reducible repeat (first | refine bkN ?_ _ | refine bkD ?_ | refine bkA ?_ _)); exact BK131.out) hb); have n2_ := Ad.mk (below_step (by repeat (first | (with_reducible first | exact HB.out | apply bwA | apply bwN | apply bw1 | refine bwS ?_ GE131.out) | exact HB.out)) hb); clear BK131; clear HB; have HO134 := n0_; have BK131 := n1_; have HB := n2_; clear n0_ n1_ n2_; clear hb ho4))
 go_loopg [3, 4] k (fun kq v3 v4 w' => ∃ (x3_1 : List (S23)) (x4_1 : Int), v4 = .int .i64 x4_1 ∧ Ad (r07_Pieces.l0 kq x3_1 x4_1 a0_0 a0_1 a0_2 a0_3 = some r) ∧ Ad (kq ≤ k) ∧ Ad (Kd.R k23 23 w' w.heap.size (fun k_ => k_ ≠ gb131) v3 x3_1) ∧ Ad (w'.heap[gb131]? = some (.cells #[.int .i64 a0_0, .int .i64 a0_1, .int .i64 a0_2, .int .i64 a0_3] 23 (0, 0))) ∧ Ad (Below w.heap.size w w'))
 case atStart => exact ⟨(y132), (0), (by first | rfl | (simp; done) | (simp [*]; done)), H', ⟨Nat.le_refl _⟩, ⟨by (with_reducible repeat (first | apply Kd.R_alloc | apply Kd.R_drewN | apply Kd.R_drew)); exact Kd.R_mono HO134.out (fun _ hk => hk.2)⟩, ⟨by (with_reducible repeat (first | refine bkN ?_ _ | refine bkD ?_ | refine bkA ?_ _)); exact BK131.out⟩, ⟨by repeat (first | (with_reducible first | exact HB.out | apply bwA | apply bwN | apply bw1 | refine bwS ?_ GE131.out) | exact HB.out)⟩⟩
 case round =>
  clear H'
  try clear p2
  obtain ⟨x3_1, x4_1, rfl, HA, HK1, HO_3, BK131, HB⟩ := hrel
  cases gk with
  | zero => exact absurd HA.out (by simp [r07_Pieces.l0])
  | succ k1 =>
   have H := HA.out
   clear HA
   simp only [r07_Pieces.l0] at H
   by_cases c5 : x4_1 < 64
   ·rw [if_pos c5] at H
    have c5b0 : decide (x4_1 < 64) = true := decide_eq_true c5
    clear c5
    have H' := Ad.mk H
    clear H
    go_wp2
    go_loopg [3, 5] k1 (fun kq v3 v5 w' => ∃ (x3_2 : List (S23)) (x5_2 : Int), v5 = .int .i64 x5_2 ∧ Ad (r07_Pieces.l1 kq x3_2 x4_1 x5_2 a0_0 a0_1 a0_2 a0_3 = some r) ∧ Ad (kq ≤ k1) ∧ Ad (Kd.R k23 23 w' w.heap.size (fun k_ => k_ ≠ gb131) v3 x3_2) ∧ Ad (w'.heap[gb131]? = some (.cells #[.int .i64 a0_0, .int .i64 a0_1, .int .i64 a0_2, .int .i64 a0_3] 23 (0, 0))) ∧ Ad (Below w.heap.size w w'))
    case atStart => exact ⟨(x3_1), (0), (by first | rfl | (simp; done) | (simp [*]; done)), H', ⟨Nat.le_refl _⟩, ⟨by (with_reducible repeat (first | apply Kd.R_alloc | apply Kd.R_drewN | apply Kd.R_drew)); exact HO_3.out⟩, ⟨by (with_reducible repeat (first | refine bkN ?_ _ | refine bkD ?_ | refine bkA ?_ _)); exact BK131.out⟩, ⟨by repeat (first | (with_reducible first | exact HB.out | apply bwA | apply bwN | apply bw1 | refine bwS ?_ GE131.out) | exact HB.out)⟩⟩
    case round =>
     clear H'
     try clear p2
     try clear c5
     try clear c5b0
     try clear p2
     obtain ⟨x3_2, x5_2, rfl, HA, HK2, HO_3, BK131, HB⟩ := hrel
     cases gk with
     | zero => exact absurd HA.out (by simp [r07_Pieces.l1])
     | succ k2 =>
      have H := HA.out
      clear HA
      simp only [r07_Pieces.l1] at H
      by_cases c6 : x5_2 < 64
      ·rw [if_pos c6] at H
       have c6b0 : decide (x5_2 < 64) = true := decide_eq_true c6
       clear c6
       replace H := Option.bind_eq_some_iff.mp H
       obtain ⟨⟨t135, t136, t137, t138, t139⟩, A70, H⟩ := H
       replace H : (if t139 = true then (if x3_2.length < 4398046511104 then (r07_Pieces.l1 k2 (x3_2 ++ [(⟨t135, t136, t137, t138⟩ : S23)]) x4_1 (wrap64 (x5_2 + 1)) a0_0 a0_1 a0_2 a0_3) else (none)) else (r07_Pieces.l1 k2 x3_2 x4_1 (wrap64 (x5_2 + 1)) a0_0 a0_1 a0_2 a0_3)) = some r := H
       have A7 := Ad.mk A70
       clear A70
       by_cases c8 : t139 = true
       ·subst c8
        have H1 : (if x3_2.length < 4398046511104 then (r07_Pieces.l1 k2 (x3_2 ++ [(⟨t135, t136, t137, t138⟩ : S23)]) x4_1 (wrap64 (x5_2 + 1)) a0_0 a0_1 a0_2 a0_3) else (none)) = some r := by rw [if_pos rfl] at H; exact H
        clear H
        have H := H1
        clear H1
        by_cases c9 : x3_2.length < 4398046511104
        ·rw [if_pos c9] at H
         have LMc9 := Ad.mk c9
         clear c9
         obtain ⟨y141, hy141⟩ : ∃ y_ : List (S23), y_ = (x3_2 ++ [(⟨t135, t136, t137, t138⟩ : S23)]) := ⟨_, rfl⟩
         replace H : (r07_Pieces.l1 k2 y141 x4_1 (wrap64 (x5_2 + 1)) a0_0 a0_1 a0_2 a0_3) = some r := by first | (rw [hy141]; with_reducible exact H) | (have H2_ := (Option.bind_some _ _).symm.trans H; rw [hy141]; with_reducible exact H2_) | (have H2_ := (Option.bind_some _ _).symm.trans H; with_reducible exact H2_) | with_reducible exact H | (rw [hy141]; exact H) | exact H
         have Ny141 := Ad.mk hy141
         clear hy141
         have H' := Ad.mk H
         clear H
         have hcz10_0 : wr.cell? ⟨gb131, 0, none⟩ = some (.int .i64 a0_0) := (bkC BK131.out 0).trans rfl
         have hcz10_1 : wr.cell? ⟨gb131, 1, none⟩ = some (.int .i64 a0_1) := (bkC BK131.out 1).trans rfl
         have hcz10_2 : wr.cell? ⟨gb131, 2, none⟩ = some (.int .i64 a0_2) := (bkC BK131.out 2).trans rfl
         have hcz10_3 : wr.cell? ⟨gb131, 3, none⟩ = some (.int .i64 a0_3) := (bkC BK131.out 3).trans rfl
         have hfz10_0 := bkF BK131.out 0
         have hfz10_1 := bkF BK131.out 1
         have hfz10_2 := bkF BK131.out 2
         have hfz10_3 := bkF BK131.out 3
         go_wp2_with (first | ((with_reducible refine gate_callee (f := 103) rfl ?_); refine goesL_ (some 30) rfl rfl Tryz.func103 (by kernel_rfl) rfl #[.agg #[.int .i64 a0_0, .int .i64 a0_1, .int .i64 a0_2, .int .i64 a0_3], .agg #[.int .i64 (wrap64 (16 * x5_2)), .int .i64 (wrap64 (16 * x4_1)), .int .i64 (wrap64 ((wrap64 (16 * x5_2)) + 15)), .int .i64 (wrap64 ((wrap64 (16 * x4_1)) + 15))]] rfl (by (try simp only [List.map_toArray, List.map_cons, List.map_nil]); first | done | rfl | (simp only [List.length_drop, List.length_take]; rfl)) ?_; (with_reducible refine (r07_Meet.calls k2 a0_0 a0_1 a0_2 a0_3 (wrap64 (16 * x5_2)) (wrap64 (16 * x4_1)) (wrap64 ((wrap64 (16 * x5_2)) + 15)) (wrap64 ((wrap64 (16 * x4_1)) + 15)) t135 t136 t137 t138 true _ A7.out).mono ?_); rintro e w11 ⟨rfl, hb⟩; refine ⟨_, rfl, ?_⟩; have n0_ := Ad.mk (Kd.R_below (by (with_reducible repeat (first | apply Kd.R_alloc | apply Kd.R_drewN | apply Kd.R_drew)); exact HO_3.out) hb); have n1_ := Ad.mk (blk_below (g := gb131) (o := .cells #[.int .i64 a0_0, .int .i64 a0_1, .int .i64 a0_2, .int .i64 a0_3] 23 (0, 0)) (by (with_reducible repeat (first | refine bkN ?_ _ | refine bkD ?_ | refine bkA ?_ _)); exact BK131.out) hb); have n2_ := Ad.mk (below_step (by repeat (first | (with_reducible first | exact HB.out | apply bwA | apply bwN | apply bw1 | refine bwS ?_ GE131.out) | exact HB.out)) hb); clear HO_3; clear BK131; clear HB; have HO_3 := n0_; have BK131 := n1_; have HB := n2_; clear n0_ n1_ n2_; (try clear hb); (try clear hb2); (try clear hk); (try clear hi)) | ((with_reducible refine gate_dst (N := 6) rfl ?_); refine box_event ?hg (N := 6) ?hd (cs := #[.int .i64 0, .int .i64 0, .int .i64 0, .int .i64 0]) (t := 23) ?hr ?_; (case hd => rfl); (case hg => rfl); (case hr => first | (go_simp; done) | (go_simp; rfl)); intro gb140 hg w12 hbox hb; have n0_ := Ad.mk (Kd.R_below (Kd.R_elderB (by (with_reducible repeat (first | apply Kd.R_alloc | apply Kd.R_drewN | apply Kd.R_drew)); exact HO_3.out) gb140 (Nat.le_of_eq hg.symm)) hb); have n1_ := Ad.mk (blk_below (g := gb131) (o := .cells #[.int .i64 a0_0, .int .i64 a0_1, .int .i64 a0_2, .int .i64 a0_3] 23 (0, 0)) (by (with_reducible repeat (first | refine bkN ?_ _ | refine bkD ?_ | refine bkA ?_ _)); exact BK131.out) hb); have n2_ := Ad.mk (below_step (by repeat (first | (with_reducible first | exact HB.out | apply bwA | apply bwN | apply bw1 | refine bwS ?_ GE131.out) | exact HB.out)) hb); have n3_ := Ad.mk (hbox); have n4_ := Ad.mk ((by rw [hg]; exact (below_size (by repeat (first | (with_reducible first | exact HB.out | apply bwA | apply bwN | apply bw1 | refine bwS ?_ GE131.out) | exact HB.out))) : w.heap.size ≤ gb140)); have n5_ := Ad.mk ((by rw [hg]; exact (below_size (by repeat (first | (with_reducible first | exact HB.out | apply bwA | apply bwN | apply bw1 | refine bwS ?_ GE131.out) | exact HB.out))) : w.heap.size ≤ gb140)); have n6_ := Ad.mk ((by rw [hg]; exact Nat.ne_of_lt (blk_lt (g := gb131) (o := .cells #[.int .i64 a0_0, .int .i64 a0_1, .int .i64 a0_2, .int .i64 a0_3] 23 (0, 0)) (by (with_reducible repeat (first | refine bkN ?_ _ | refine bkD ?_ | refine bkA ?_ _)); exact BK131.out)) : gb131 ≠ gb140)); have n7_ := Ad.mk ((by rw [hg]; exact Nat.ne_of_gt (blk_lt (g := gb131) (o := .cells #[.int .i64 a0_0, .int .i64 a0_1, .int .i64 a0_2, .int .i64 a0_3] 23 (0, 0)) (by (with_reducible repeat (first | refine bkN ?_ _ | refine bkD ?_ | refine bkA ?_ _)); exact BK131.out)) : gb140 ≠ gb131)); clear HO_3; clear BK131; clear HB; have HO_3 := n0_; have BK131 := n1_; have HB := n2_; have BK140 := n3_; have GW140 := n4_; have GE140 := n5_; have NB131_140 := n6_; have NB140_131 := n7_; clear n0_ n1_ n2_ n3_ n4_ n5_ n6_ n7_; clear hb hbox hg; have hnb13 := NB140_131.out; have hnc13 := NB131_140.out; have hcz14_0 : w12.cell? ⟨gb140, 0, none⟩ = some (.int .i64 0) := (bkC BK140.out 0).trans rfl; have hcz14_1 : w12.cell? ⟨gb140, 1, none⟩ = some (.int .i64 0) := (bkC BK140.out 1).trans rfl; have hcz14_2 : w12.cell? ⟨gb140, 2, none⟩ = some (.int .i64 0) := (bkC BK140.out 2).trans rfl; have hcz14_3 : w12.cell? ⟨gb140, 3, none⟩ = some (.int .i64 0) := (bkC BK140.out 3).trans rfl; have hfz14_0 := bkF BK140.out 0; have hfz14_1 := bkF BK140.out 1; have hfz14_2 := bkF BK140.out 2; have hfz14_3 := bkF BK140.out 3) | ((with_reducible refine gate_builtin (b := .append) (xs := #[.tmp 34, .tmp 36]) rfl ?_); at_builtin; refine Kd.R_append k23 (w0 := w) w.heap.size rfl (.tmp 34) (.tmp 36) 77 23 (.agg #[(.int .i64 0), (.int .i64 0), (.int .i64 0), (.int .i64 0)]) 32 rfl Tryz.underlying77 info23 rfl (by decide) (by omega) u3 x3_2 (⟨t135, t136, t137, t138⟩ : S23) [.int .i64 t135, .int .i64 t136, .int .i64 t137, .int .i64 t138] (fun k_ => k_ ≠ gb131 ∧ k_ ≠ gb140) (fun _ => False) rfl (by first | (go_simp; done) | (go_simp; rfl)) ?aP (fun _ hk => hk.elim) ?aF ?aO ?aB ?aS ?aL ?_; (case aP => exact k23_mkM _ _ _ (⟨t135, t136, t137, t138⟩ : S23)); (case aB => exact (by repeat (first | (with_reducible first | exact HB.out | apply bwA | apply bwN | apply bw1 | refine bwS ?_ GE131.out | refine bwS ?_ GE140.out) | exact HB.out))); (case aF => exact (fun k_ hk => ⟨Kd.freshB (g := gb131) (o := .cells #[.int .i64 a0_0, .int .i64 a0_1, .int .i64 a0_2, .int .i64 a0_3] 23 (0, 0)) (by (with_reducible repeat (first | refine bkN ?_ _ | refine bkD ?_ | refine bkA ?_ _)); refine blk_far ?_ NB131_140.out _; (with_reducible repeat (first | refine bkN ?_ _ | refine bkD ?_ | refine bkA ?_ _)); refine blk_far ?_ NB131_140.out _; (with_reducible repeat (first | refine bkN ?_ _ | refine bkD ?_ | refine bkA ?_ _)); refine blk_far ?_ NB131_140.out _; (with_reducible repeat (first | refine bkN ?_ _ | refine bkD ?_ | refine bkA ?_ _)); refine blk_far ?_ NB131_140.out _; (with_reducible repeat (first | refine bkN ?_ _ | refine bkD ?_ | refine bkA ?_ _)); exact BK131.out) k_ hk, Kd.freshB (g := gb140) (o := .cells #[.int .i64 t135, .int .i64 t136, .int .i64 t137, .int .i64 t138] 23 (0, 0)) (by (with_reducible repeat (first | refine bkN ?_ _ | refine bkD ?_ | refine bkA ?_ _)); refine blk_put (cs := #[.int .i64 t135, .int .i64 t136, .int .i64 t137, .int .i64 0]) ?_ 3 _ rfl; (with_reducible repeat (first | refine bkN ?_ _ | refine bkD ?_ | refine bkA ?_ _)); refine blk_put (cs := #[.int .i64 t135, .int .i64 t136, .int .i64 0, .int .i64 0]) ?_ 2 _ rfl; (with_reducible repeat (first | refine bkN ?_ _ | refine bkD ?_ | refine bkA ?_ _)); refine blk_put (cs := #[.int .i64 t135, .int .i64 0, .int .i64 0, .int .i64 0]) ?_ 1 _ rfl; (with_reducible repeat (first | refine bkN ?_ _ | refine bkD ?_ | refine bkA ?_ _)); refine blk_put (cs := #[.int .i64 0, .int .i64 0, .int .i64 0, .int .i64 0]) ?_ 0 _ rfl; (with_reducible repeat (first | refine bkN ?_ _ | refine bkD ?_ | refine bkA ?_ _)); exact BK140.out) k_ hk⟩)); (case aO => exact (by (with_reducible repeat (first | apply Kd.R_alloc | apply Kd.R_drewN | apply Kd.R_drew)); exact Kd.R_mono (Kd.R_far (p := ⟨gb140, 3, none⟩) (Kd.R_far (p := ⟨gb140, 2, none⟩) (Kd.R_far (p := ⟨gb140, 1, none⟩) (Kd.R_far (p := ⟨gb140, 0, none⟩) (Kd.R_mono HO_3.out (fun k_ hk => (⟨hk, hk.2⟩ : _ ∧ k_ ≠ gb140))) (fun _ hk => hk.2) (.int .i64 t135)) (fun _ hk => hk.2) (.int .i64 t136)) (fun _ hk => hk.2) (.int .i64 t137)) (fun _ hk => hk.2) (.int .i64 t138)) (fun _ hk => ⟨hk.1.1, hk.1.2⟩))); (case aS => exact (below_size (by repeat (first | (with_reducible first | exact HB.out | apply bwA | apply bwN | apply bw1 | refine bwS ?_ GE131.out | refine bwS ?_ GE140.out) | exact HB.out)))); (case aL => have := LMc9.out; omega); intro v142 w15 ho hb hg hat; rw [← Ny141.out] at ho; have n0_ := Ad.mk (blk_grown (g := gb131) (o := .cells #[.int .i64 a0_0, .int .i64 a0_1, .int .i64 a0_2, .int .i64 a0_3] 23 (0, 0)) (by (with_reducible repeat (first | refine bkN ?_ _ | refine bkD ?_ | refine bkA ?_ _)); refine blk_far ?_ NB131_140.out _; (with_reducible repeat (first | refine bkN ?_ _ | refine bkD ?_ | refine bkA ?_ _)); refine blk_far ?_ NB131_140.out _; (with_reducible repeat (first | refine bkN ?_ _ | refine bkD ?_ | refine bkA ?_ _)); refine blk_far ?_ NB131_140.out _; (with_reducible repeat (first | refine bkN ?_ _ | refine bkD ?_ | refine bkA ?_ _)); refine blk_far ?_ NB131_140.out _; (with_reducible repeat (first | refine bkN ?_ _ | refine bkD ?_ | refine bkA ?_ _)); exact BK131.out) hg (Kd.R_away HO_3.out (fun _ hk => hk.1))); have n1_ := Ad.mk (blk_grown (g := gb140) (o := .cells #[.int .i64 t135, .int .i64 t136, .int .i64 t137, .int .i64 t138] 23 (0, 0)) (by (with_reducible repeat (first | refine bkN ?_ _ | refine bkD ?_ | refine bkA ?_ _)); refine blk_put (cs := #[.int .i64 t135, .int .i64 t136, .int .i64 t137, .int .i64 0]) ?_ 3 _ rfl; (with_reducible repeat (first | refine bkN ?_ _ | refine bkD ?_ | refine bkA ?_ _)); refine blk_put (cs := #[.int .i64 t135, .int .i64 t136, .int .i64 0, .int .i64 0]) ?_ 2 _ rfl; (with_reducible repeat (first | refine bkN ?_ _ | refine bkD ?_ | refine bkA ?_ _)); refine blk_put (cs := #[.int .i64 t135, .int .i64 0, .int .i64 0, .int .i64 0]) ?_ 1 _ rfl; (with_reducible repeat (first | refine bkN ?_ _ | refine bkD ?_ | refine bkA ?_ _)); refine blk_put (cs := #[.int .i64 0, .int .i64 0, .int .i64 0, .int .i64 0]) ?_ 0 _ rfl; (with_reducible repeat (first | refine bkN ?_ _ | refine bkD ?_ | refine bkA ?_ _)); exact BK140.out) hg (Kd.R_away HO_3.out (fun _ hk => hk.2))); have n2_ := Ad.mk (hb); have n3_ := Ad.mk (ho); clear BK131; clear BK140; clear HB; clear HO_3; have BK131 := n0_; have BK140 := n1_; have HB := n2_; have HO143 := n3_; clear n0_ n1_ n2_ n3_; clear ho hb hg hat))
         go_roundg k2
         case measure => have := HK1.out; have := HK2.out; omega
         case rel => exact ⟨(y141), (wrap64 (x5_2 + 1)), (by first | rfl | (simp; done) | (simp [*]; done)), H', ⟨by have := HK1.out; have := HK2.out; omega⟩, ⟨by (with_reducible repeat (first | apply Kd.R_alloc | apply Kd.R_drewN | apply Kd.R_drew)); exact Kd.R_mono HO143.out (fun _ hk => hk.1)⟩, ⟨by (with_reducible repeat (first | refine bkN ?_ _ | refine bkD ?_ | refine bkA ?_ _)); exact BK131.out⟩, ⟨by repeat (first | (with_reducible first | exact HB.out | apply bwA | apply bwN | apply bw1 | refine bwS ?_ GE131.out | refine bwS ?_ GE140.out) | exact HB.out)⟩⟩
        ·rw [if_neg c9] at H
         exact absurd H (by simp)
       ·replace c8 := Bool.eq_false_iff.mpr c8
        subst c8
        have H1 : (r07_Pieces.l1 k2 x3_2 x4_1 (wrap64 (x5_2 + 1)) a0_0 a0_1 a0_2 a0_3) = some r := by rw [if_neg (show ¬ (false = true) by decide)] at H; exact H
        clear H
        have H := H1
        clear H1
        have H' := Ad.mk H
        clear H
        have hcz16_0 : wr.cell? ⟨gb131, 0, none⟩ = some (.int .i64 a0_0) := (bkC BK131.out 0).trans rfl
        have hcz16_1 : wr.cell? ⟨gb131, 1, none⟩ = some (.int .i64 a0_1) := (bkC BK131.out 1).trans rfl
        have hcz16_2 : wr.cell? ⟨gb131, 2, none⟩ = some (.int .i64 a0_2) := (bkC BK131.out 2).trans rfl
        have hcz16_3 : wr.cell? ⟨gb131, 3, none⟩ = some (.int .i64 a0_3) := (bkC BK131.out 3).trans rfl
        have hfz16_0 := bkF BK131.out 0
        have hfz16_1 := bkF BK131.out 1
        have hfz16_2 := bkF BK131.out 2
        have hfz16_3 := bkF BK131.out 3
        go_wp2_with (first | ((with_reducible refine gate_callee (f := 103) rfl ?_); refine goesL_ (some 30) rfl rfl Tryz.func103 (by kernel_rfl) rfl #[.agg #[.int .i64 a0_0, .int .i64 a0_1, .int .i64 a0_2, .int .i64 a0_3], .agg #[.int .i64 (wrap64 (16 * x5_2)), .int .i64 (wrap64 (16 * x4_1)), .int .i64 (wrap64 ((wrap64 (16 * x5_2)) + 15)), .int .i64 (wrap64 ((wrap64 (16 * x4_1)) + 15))]] rfl (by (try simp only [List.map_toArray, List.map_cons, List.map_nil]); first | done | rfl | (simp only [List.length_drop, List.length_take]; rfl)) ?_; (with_reducible refine (r07_Meet.calls k2 a0_0 a0_1 a0_2 a0_3 (wrap64 (16 * x5_2)) (wrap64 (16 * x4_1)) (wrap64 ((wrap64 (16 * x5_2)) + 15)) (wrap64 ((wrap64 (16 * x4_1)) + 15)) t135 t136 t137 t138 false _ A7.out).mono ?_); rintro e w17 ⟨rfl, hb⟩; refine ⟨_, rfl, ?_⟩; have n0_ := Ad.mk (Kd.R_below (by (with_reducible repeat (first | apply Kd.R_alloc | apply Kd.R_drewN | apply Kd.R_drew)); exact HO_3.out) hb); have n1_ := Ad.mk (blk_below (g := gb131) (o := .cells #[.int .i64 a0_0, .int .i64 a0_1, .int .i64 a0_2, .int .i64 a0_3] 23 (0, 0)) (by (with_reducible repeat (first | refine bkN ?_ _ | refine bkD ?_ | refine bkA ?_ _)); exact BK131.out) hb); have n2_ := Ad.mk (below_step (by repeat (first | (with_reducible first | exact HB.out | apply bwA | apply bwN | apply bw1 | refine bwS ?_ GE131.out) | exact HB.out)) hb); clear HO_3; clear BK131; clear HB; have HO_3 := n0_; have BK131 := n1_; have HB := n2_; clear n0_ n1_ n2_; (try clear hb); (try clear hb2); (try clear hk); (try clear hi)) | ((with_reducible refine gate_dst (N := 6) rfl ?_); refine box_event ?hg (N := 6) ?hd (cs := #[.int .i64 0, .int .i64 0, .int .i64 0, .int .i64 0]) (t := 23) ?hr ?_; (case hd => rfl); (case hg => rfl); (case hr => first | (go_simp; done) | (go_simp; rfl)); intro gb140 hg w18 hbox hb; have n0_ := Ad.mk (Kd.R_below (Kd.R_elderB (by (with_reducible repeat (first | apply Kd.R_alloc | apply Kd.R_drewN | apply Kd.R_drew)); exact HO_3.out) gb140 (Nat.le_of_eq hg.symm)) hb); have n1_ := Ad.mk (blk_below (g := gb131) (o := .cells #[.int .i64 a0_0, .int .i64 a0_1, .int .i64 a0_2, .int .i64 a0_3] 23 (0, 0)) (by (with_reducible repeat (first | refine bkN ?_ _ | refine bkD ?_ | refine bkA ?_ _)); exact BK131.out) hb); have n2_ := Ad.mk (below_step (by repeat (first | (with_reducible first | exact HB.out | apply bwA | apply bwN | apply bw1 | refine bwS ?_ GE131.out) | exact HB.out)) hb); have n3_ := Ad.mk (hbox); have n4_ := Ad.mk ((by rw [hg]; exact (below_size (by repeat (first | (with_reducible first | exact HB.out | apply bwA | apply bwN | apply bw1 | refine bwS ?_ GE131.out) | exact HB.out))) : w.heap.size ≤ gb140)); have n5_ := Ad.mk ((by rw [hg]; exact (below_size (by repeat (first | (with_reducible first | exact HB.out | apply bwA | apply bwN | apply bw1 | refine bwS ?_ GE131.out) | exact HB.out))) : w.heap.size ≤ gb140)); have n6_ := Ad.mk ((by rw [hg]; exact Nat.ne_of_lt (blk_lt (g := gb131) (o := .cells #[.int .i64 a0_0, .int .i64 a0_1, .int .i64 a0_2, .int .i64 a0_3] 23 (0, 0)) (by (with_reducible repeat (first | refine bkN ?_ _ | refine bkD ?_ | refine bkA ?_ _)); exact BK131.out)) : gb131 ≠ gb140)); have n7_ := Ad.mk ((by rw [hg]; exact Nat.ne_of_gt (blk_lt (g := gb131) (o := .cells #[.int .i64 a0_0, .int .i64 a0_1, .int .i64 a0_2, .int .i64 a0_3] 23 (0, 0)) (by (with_reducible repeat (first | refine bkN ?_ _ | refine bkD ?_ | refine bkA ?_ _)); exact BK131.out)) : gb140 ≠ gb131)); clear HO_3; clear BK131; clear HB; have HO_3 := n0_; have BK131 := n1_; have HB := n2_; have BK140 := n3_; have GW140 := n4_; have GE140 := n5_; have NB131_140 := n6_; have NB140_131 := n7_; clear n0_ n1_ n2_ n3_ n4_ n5_ n6_ n7_; clear hb hbox hg; have hnb19 := NB140_131.out; have hnc19 := NB131_140.out; have hcz20_0 : w18.cell? ⟨gb140, 0, none⟩ = some (.int .i64 0) := (bkC BK140.out 0).trans rfl; have hcz20_1 : w18.cell? ⟨gb140, 1, none⟩ = some (.int .i64 0) := (bkC BK140.out 1).trans rfl; have hcz20_2 : w18.cell? ⟨gb140, 2, none⟩ = some (.int .i64 0) := (bkC BK140.out 2).trans rfl; have hcz20_3 : w18.cell? ⟨gb140, 3, none⟩ = some (.int .i64 0) := (bkC BK140.out 3).trans rfl; have hfz20_0 := bkF BK140.out 0; have hfz20_1 := bkF BK140.out 1; have hfz20_2 := bkF BK140.out 2; have hfz20_3 := bkF BK140.out 3))
        go_roundg k2
        case measure => have := HK1.out; have := HK2.out; omega
        case rel => exact ⟨(x3_2), (wrap64 (x5_2 + 1)), (by first | rfl | (simp; done) | (simp [*]; done)), H', ⟨by have := HK1.out; have := HK2.out; omega⟩, ⟨by (with_reducible repeat (first | apply Kd.R_alloc | apply Kd.R_drewN | apply Kd.R_drew)); exact Kd.R_mono (Kd.R_far (p := ⟨gb140, 3, none⟩) (Kd.R_far (p := ⟨gb140, 2, none⟩) (Kd.R_far (p := ⟨gb140, 1, none⟩) (Kd.R_far (p := ⟨gb140, 0, none⟩) (Kd.R_mono HO_3.out (fun k_ hk => (⟨hk, hk.2⟩ : _ ∧ k_ ≠ gb140))) (fun _ hk => hk.2) (.int .i64 t135)) (fun _ hk => hk.2) (.int .i64 t136)) (fun _ hk => hk.2) (.int .i64 t137)) (fun _ hk => hk.2) (.int .i64 t138)) (fun _ hk => hk.1.1)⟩, ⟨by (with_reducible repeat (first | refine bkN ?_ _ | refine bkD ?_ | refine bkA ?_ _)); refine blk_far ?_ NB131_140.out _; (with_reducible repeat (first | refine bkN ?_ _ | refine bkD ?_ | refine bkA ?_ _)); refine blk_far ?_ NB131_140.out _; (with_reducible repeat (first | refine bkN ?_ _ | refine bkD ?_ | refine bkA ?_ _)); refine blk_far ?_ NB131_140.out _; (with_reducible repeat (first | refine bkN ?_ _ | refine bkD ?_ | refine bkA ?_ _)); refine blk_far ?_ NB131_140.out _; (with_reducible repeat (first | refine bkN ?_ _ | refine bkD ?_ | refine bkA ?_ _)); exact BK131.out⟩, ⟨by repeat (first | (with_reducible first | exact HB.out | apply bwA | apply bwN | apply bw1 | refine bwS ?_ GE131.out | refine bwS ?_ GE140.out) | exact HB.out)⟩⟩
      ·rw [if_neg c6] at H
       have c6b0 : decide (x5_2 < 64) = false := decide_eq_false c6
       clear c6
       have H' := Ad.mk H
       clear H
       go_wp2
       go_roundg k2
       case measure => have := HK1.out; have := HK2.out; omega
       case rel => exact ⟨(x3_2), (wrap64 (x4_1 + 1)), (by first | rfl | (simp; done) | (simp [*]; done)), H', ⟨by have := HK1.out; have := HK2.out; omega⟩, ⟨by (with_reducible repeat (first | apply Kd.R_alloc | apply Kd.R_drewN | apply Kd.R_drew)); exact HO_3.out⟩, ⟨by (with_reducible repeat (first | refine bkN ?_ _ | refine bkD ?_ | refine bkA ?_ _)); exact BK131.out⟩, ⟨by repeat (first | (with_reducible first | exact HB.out | apply bwA | apply bwN | apply bw1 | refine bwS ?_ GE131.out) | exact HB.out)⟩⟩
   ·rw [if_neg c5] at H
    have c5b0 : decide (x4_1 < 64) = false := decide_eq_false c5
    clear c5
    obtain rfl := Option.some.inj H
    go_wp2
    go_ret
    exact ⟨_, by first | rfl | (simp [errW_none, errW_some] <;> rfl) | (simp [*, errW_none, errW_some] <;> rfl), by (with_reducible repeat (first | apply Kd.R_alloc | apply Kd.R_drewN | apply Kd.R_drew)); exact Kd.R_mono HO_3.out (fun _ hk => trivial), by repeat (first | (with_reducible first | exact HB.out | apply bwA | apply bwN | apply bw1 | refine bwS ?_ GE131.out) | exact HB.out)⟩
def r13_Tiles.f (k : Nat) (a0 : Int) (a1 : Int) : Option (Int × Int) := if a0 < 1 then (some (0, 3)) else (if a0 > 1024 then (some (0, 3)) else (if a1 < 1 then (some (0, 3)) else (if a1 > 1024 then (some (0, 3)) else ((r07_Pieces.f k 0 0 (wrap64 (a0 - 1)) (wrap64 (a1 - 1))).bind fun t144 => (some ((t144.length : Int), 0))))))
set_option maxHeartbeats 8000000 in
set_option maxRecDepth 100000 in
theorem r13_Tiles.calls (k : Nat) (a0 : Int) (a1 : Int) (r1 : Int) (r2 : Int) (w : World) (h : r13_Tiles.f k a0 a1 = some (r1, r2)) :
  Calls Tryz.prog 52 #[.int .i64 a0, .int .i64 a1] w fun e w' => e = .returned (.tuple #[.int .i64 r1, .int .i64 r2]) ∧ Below w.heap.size w w' := by
 have hu23 := Tryz.underlying23
 have HB := Ad.mk (Below.refl w.heap.size w)
 have H : (if a0 < 1 then (some (0, 3)) else (if a0 > 1024 then (some (0, 3)) else (if a1 < 1 then (some (0, 3)) else (if a1 > 1024 then (some (0, 3)) else ((r07_Pieces.f k 0 0 (wrap64 (a0 - 1)) (wrap64 (a1 - 1))).bind fun t144 => (some ((t144.length : Int), 0))))))) = some (r1, r2) := h
 clear h
 by_cases c3 : a0 < 1
 ·rw [if_pos c3] at H
  have c3b0 : decide (a0 < 1) = true := decide_eq_true c3
  clear c3
  simp only [Option.some.injEq, Prod.mk.injEq] at H
  obtain ⟨rfl, rfl⟩ := H
  go_enter Tryz.func52, Tryz.ntmps52
  go_wp2
  go_ret2
  exact ⟨by first | rfl | (simp [errW_none, errW_some] <;> rfl) | (simp [*, errW_none, errW_some] <;> rfl), by repeat (first | (with_reducible first | exact HB.out | apply bwA | apply bwN | apply bw1) | exact HB.out)⟩
 ·rw [if_neg c3] at H
  have c3b0 : decide (a0 < 1) = false := decide_eq_false c3
  clear c3
  by_cases c4 : a0 > 1024
  ·rw [if_pos c4] at H
   have c4b0 : decide (1024 < a0) = true := decide_eq_true c4
   clear c4
   simp only [Option.some.injEq, Prod.mk.injEq] at H
   obtain ⟨rfl, rfl⟩ := H
   go_enter Tryz.func52, Tryz.ntmps52
   go_wp2
   go_ret2
   exact ⟨by first | rfl | (simp [errW_none, errW_some] <;> rfl) | (simp [*, errW_none, errW_some] <;> rfl), by repeat (first | (with_reducible first | exact HB.out | apply bwA | apply bwN | apply bw1) | exact HB.out)⟩
  ·rw [if_neg c4] at H
   have c4b0 : decide (1024 < a0) = false := decide_eq_false c4
   clear c4
   by_cases c5 : a1 < 1
   ·rw [if_pos c5] at H
    have c5b0 : decide (a1 < 1) = true := decide_eq_true c5
    clear c5
    simp only [Option.some.injEq, Prod.mk.injEq] at H
    obtain ⟨rfl, rfl⟩ := H
    go_enter Tryz.func52, Tryz.ntmps52
    go_wp2
    go_ret2
    exact ⟨by first | rfl | (simp [errW_none, errW_some] <;> rfl) | (simp [*, errW_none, errW_some] <;> rfl), by repeat (first | (with_reducible first | exact HB.out | apply bwA | apply bwN | apply bw1) | exact HB.out)⟩
   ·rw [if_neg c5] at H
    have c5b0 : decide (a1 < 1) = false := decide_eq_false c5
    clear c5
    by_cases c6 : a1 > 1024
    ·rw [if_pos c6] at H
     have c6b0 : decide (1024 < a1) = true := decide_eq_true c6
     clear c6
     simp only [Option.some.injEq, Prod.mk.injEq] at H
     obtain ⟨rfl, rfl⟩ := H
     go_enter Tryz.func52, Tryz.ntmps52
     go_wp2
     go_ret2
     exact ⟨by first | rfl | (simp [errW_none, errW_some] <;> rfl) | (simp [*, errW_none, errW_some] <;> rfl), by repeat (first | (with_reducible first | exact HB.out | apply bwA | apply bwN | apply bw1) | exact HB.out)⟩
    ·rw [if_neg c6] at H
     have c6b0 : decide (1024 < a1) = false := decide_eq_false c6
     clear c6
     replace H := Option.bind_eq_some_iff.mp H
     obtain ⟨t144, A70, H⟩ := H
     replace H : (some ((t144.length : Int), 0)) = some (r1, r2) := H
     have A7 := Ad.mk A70
     clear A70
     simp only [Option.some.injEq, Prod.mk.injEq] at H
     obtain ⟨rfl, rfl⟩ := H
     go_enter Tryz.func52, Tryz.ntmps52
     go_wp2_with (first | ((with_reducible refine gate_callee (f := 54) rfl ?_); refine goesL_ (some 25) rfl rfl Tryz.func54 (by kernel_rfl) rfl #[.agg #[.int .i64 0, .int .i64 0, .int .i64 (wrap64 (a0 - 1)), .int .i64 (wrap64 (a1 - 1))]] rfl (by (try simp only [List.map_toArray, List.map_cons, List.map_nil]); first | done | rfl | (simp only [List.length_drop, List.length_take]; rfl)) ?_; (with_reducible refine (r07_Pieces.calls k 0 0 (wrap64 (a0 - 1)) (wrap64 (a1 - 1)) t144 _ A7.out).mono ?_); rintro e w8 ⟨v145, rfl, ho0, hb⟩; refine ⟨_, rfl, ?_⟩; have n0_ := Ad.mk (Kd.R_lower ho0 (below_size (by repeat (first | (with_reducible first | exact HB.out | apply bwA | apply bwN | apply bw1) | exact HB.out)))); have n1_ := Ad.mk (below_step (by repeat (first | (with_reducible first | exact HB.out | apply bwA | apply bwN | apply bw1) | exact HB.out)) hb); clear HB; have HO146 := n0_; have HB := n1_; clear n0_ n1_; (try clear hb); (try clear hb2); (try clear hk); (try clear hi); (try clear ho0); obtain ⟨Ao9, co9, eo9⟩ := Kd.R_slice HO146.out; subst eo9))
     go_ret2
     exact ⟨by first | rfl | (simp [errW_none, errW_some] <;> rfl) | (simp [*, errW_none, errW_some] <;> rfl), by repeat (first | (with_reducible first | exact HB.out | apply bwA | apply bwN | apply bw1) | exact HB.out)⟩
def r13_Get.l0 : Nat → List Int → Int → Int → Int → Int → List (S95) → Int → Option (Int × Int × (List (S95)) × Int)
 | 0, _, _, _, _, _, _, _ => none
 | k + 1, x0, x6, x7, x8, x10, x11, x12 => if x12 < x8 then ((r13_get.f k x0 (wrap64 (13 + (wrap64 (8 * x12)))) 4).bind fun t156 => ((r13_get.f k x0 (wrap64 (17 + (wrap64 (8 * x12)))) 4).bind fun t157 => (if t156 = x10 then (if t157 < 1 then (some (0, 0, ([] : List (S95)), 13)) else (if t157 > 1048576 then (some (0, 0, ([] : List (S95)), 13)) else (if x11.length < 8796093022208 then (r13_Get.l0 k x0 x6 x7 x8 (wrap64 (x10 + t157)) (x11 ++ [(⟨t156, t157⟩ : S95)]) (wrap64 (x12 + 1))) else (none)))) else (some (0, 0, ([] : List (S95)), 13))))) else (some (x6, x7, x11, 0))
def r13_Get.f (k : Nat) (l0 : List Int) : Option (Int × Int × (List (S95)) × Int) := if (l0.length : Int) < 13 then (some (0, 0, ([] : List (S95)), 14)) else (if 5 ≤ (l0.length : Int) then (if (strOfNums (l0.take 5)).toList = ([72, 65, 67, 72, 1] : List UInt8) then ((r13_get.f k l0 5 2).bind fun t148 => ((r13_get.f k l0 7 2).bind fun t149 => ((r13_Tiles.f k (wrap64 (t148 + 1)) (wrap64 (t149 + 1))).bind fun bt150 => (if bt150.2 = 0 then ((r13_get.f k l0 9 4).bind fun t152 => (if t152 = bt150.1 then (if (l0.length : Int) < (wrap64 (13 + (wrap64 (8 * bt150.1)))) then (some (0, 0, ([] : List (S95)), 14)) else (r13_Get.l0 k l0 (wrap64 (t148 + 1)) (wrap64 (t149 + 1)) bt150.1 (wrap64 (13 + (wrap64 (8 * bt150.1)))) (([] : List (S95))) 0)) else (some (0, 0, ([] : List (S95)), 6)))) else (some (0, 0, ([] : List (S95)), bt150.2)))))) else (some (0, 0, ([] : List (S95)), 13))) else (none))
set_option maxHeartbeats 8000000 in
set_option maxRecDepth 100000 in
theorem r13_Get.calls (k : Nat) (A0 : Option Addr) (c0 : Nat) (l0 : List Int) (r1 : Int) (r2 : Int) (r3 : List (S95)) (r4 : Int) (w : World) (hr0 : Kd.C (Kd.int .u8) w A0 l0.length l0) (hc0 : l0.length ≤ c0) (h : r13_Get.f k l0 = some (r1, r2, r3, r4)) :
  Calls Tryz.prog 28 #[.slice A0 l0.length c0] w fun e w' => ∃ v2_ : Value, e = .returned (.tuple #[.int .i64 r1, .int .i64 r2, v2_, .int .i64 r4]) ∧ Kd.R k95 95 w' w.heap.size (fun _ => True) v2_ r3 ∧ Below w.heap.size w w' := by
 have hu95 := Tryz.underlying95
 have HR0 := Ad.mk hr0
 have HC0 := Ad.mk hc0
 clear hr0 hc0
 have HB := Ad.mk (Below.refl w.heap.size w)
 have H : (if (l0.length : Int) < 13 then (some (0, 0, ([] : List (S95)), 14)) else (if 5 ≤ (l0.length : Int) then (if (strOfNums (l0.take 5)).toList = ([72, 65, 67, 72, 1] : List UInt8) then ((r13_get.f k l0 5 2).bind fun t148 => ((r13_get.f k l0 7 2).bind fun t149 => ((r13_Tiles.f k (wrap64 (t148 + 1)) (wrap64 (t149 + 1))).bind fun bt150 => (if bt150.2 = 0 then ((r13_get.f k l0 9 4).bind fun t152 => (if t152 = bt150.1 then (if (l0.length : Int) < (wrap64 (13 + (wrap64 (8 * bt150.1)))) then (some (0, 0, ([] : List (S95)), 14)) else (r13_Get.l0 k l0 (wrap64 (t148 + 1)) (wrap64 (t149 + 1)) bt150.1 (wrap64 (13 + (wrap64 (8 * bt150.1)))) (([] : List (S95))) 0)) else (some (0, 0, ([] : List (S95)), 6)))) else (some (0, 0, ([] : List (S95)), bt150.2)))))) else (some (0, 0, ([] : List (S95)), 13))) else (none))) = some (r1, r2, r3, r4) := h
 clear h
 obtain ⟨y147, hy147⟩ : ∃ y_ : List Int, y_ = l0.take 5 := ⟨_, rfl⟩
 rw [← hy147] at H
 have Ny147 := Ad.mk hy147
 clear hy147
 by_cases c2 : (l0.length : Int) < 13
 ·rw [if_pos c2] at H
  have c2b0 : decide ((l0.length : Int) < 13) = true := decide_eq_true c2
  have c2b1 : decide (l0.length < 13) = true := decide_eq_true (by omega)
  clear c2
  simp only [Option.some.injEq, Prod.mk.injEq] at H
  obtain ⟨rfl, rfl, rfl, rfl⟩ := H
  go_enter Tryz.func28, Tryz.ntmps28
  go_wp2
  refine bodyPost_ret (results_list (rs := [.tmp 2, .tmp 3, .tmp 4, .tmp 5]) rfl (by simp) (.tmp (.tmp (.tmp (.tmp .nil))))) rfl ?_
  exact ⟨_, by first | rfl | (simp [errW_none, errW_some] <;> rfl) | (simp [*, errW_none, errW_some] <;> rfl), by first | exact Kd.R_nil _ _ _ _ _ | exact Kd.N_nil _ _ _ _ _ | exact Kd.V_nil _ _ _ _ _ | exact Kd.Q_nil _ _ _ _ _ | exact Kd.S_nil _ _ _ _ _, by repeat (first | (with_reducible first | exact HB.out | apply bwA | apply bwN | apply bw1) | exact HB.out)⟩
 ·rw [if_neg c2] at H
  have c2b0 : decide ((l0.length : Int) < 13) = false := decide_eq_false c2
  have c2b1 : decide (l0.length < 13) = false := decide_eq_false (by omega)
  clear c2
  by_cases c3 : 5 ≤ (l0.length : Int)
  ·rw [if_pos c3] at H
   have c3b0 := eq_true c3
   have c3b1 : decide (5 ≤ (l0.length : Int)) = true := decide_eq_true c3
   clear c3
   by_cases c4 : (strOfNums y147).toList = ([72, 65, 67, 72, 1] : List UInt8)
   ·rw [if_pos c4] at H
    have c4b0 : ((strOfNums y147).toList == ([72, 65, 67, 72, 1] : List UInt8)) = true := beq_iff_eq.mpr c4
    have c4b1 : ((strOfNums y147).toList != ([72, 65, 67, 72, 1] : List UInt8)) = false := bne_eq_false_iff_eq.mpr c4
    clear c4
    replace H := Option.bind_eq_some_iff.mp H
    obtain ⟨t148, A50, H⟩ := H
    replace H : ((r13_get.f k l0 7 2).bind fun t149 => ((r13_Tiles.f k (wrap64 (t148 + 1)) (wrap64 (t149 + 1))).bind fun bt150 => (if bt150.2 = 0 then ((r13_get.f k l0 9 4).bind fun t152 => (if t152 = bt150.1 then (if (l0.length : Int) < (wrap64 (13 + (wrap64 (8 * bt150.1)))) then (some (0, 0, ([] : List (S95)), 14)) else (r13_Get.l0 k l0 (wrap64 (t148 + 1)) (wrap64 (t149 + 1)) bt150.1 (wrap64 (13 + (wrap64 (8 * bt150.1)))) (([] : List (S95))) 0)) else (some (0, 0, ([] : List (S95)), 6)))) else (some (0, 0, ([] : List (S95)), bt150.2))))) = some (r1, r2, r3, r4) := H
    have A5 := Ad.mk A50
    clear A50
    replace H := Option.bind_eq_some_iff.mp H
    obtain ⟨t149, A60, H⟩ := H
    replace H : ((r13_Tiles.f k (wrap64 (t148 + 1)) (wrap64 (t149 + 1))).bind fun bt150 => (if bt150.2 = 0 then ((r13_get.f k l0 9 4).bind fun t152 => (if t152 = bt150.1 then (if (l0.length : Int) < (wrap64 (13 + (wrap64 (8 * bt150.1)))) then (some (0, 0, ([] : List (S95)), 14)) else (r13_Get.l0 k l0 (wrap64 (t148 + 1)) (wrap64 (t149 + 1)) bt150.1 (wrap64 (13 + (wrap64 (8 * bt150.1)))) (([] : List (S95))) 0)) else (some (0, 0, ([] : List (S95)), 6)))) else (some (0, 0, ([] : List (S95)), bt150.2)))) = some (r1, r2, r3, r4) := H
    have A6 := Ad.mk A60
    clear A60
    replace H := Option.bind_eq_some_iff.mp H
    obtain ⟨⟨t150, t151⟩, A70, H⟩ := H
    replace H : (if t151 = 0 then ((r13_get.f k l0 9 4).bind fun t152 => (if t152 = t150 then (if (l0.length : Int) < (wrap64 (13 + (wrap64 (8 * t150)))) then (some (0, 0, ([] : List (S95)), 14)) else (r13_Get.l0 k l0 (wrap64 (t148 + 1)) (wrap64 (t149 + 1)) t150 (wrap64 (13 + (wrap64 (8 * t150)))) (([] : List (S95))) 0)) else (some (0, 0, ([] : List (S95)), 6)))) else (some (0, 0, ([] : List (S95)), t151))) = some (r1, r2, r3, r4) := H
    have A7 := Ad.mk A70
    clear A70
    by_cases c8 : t151 = 0
    ·rw [if_pos c8] at H
     have c8b0 : (t151 == 0) = true := beq_iff_eq.mpr c8
     have c8b1 : (t151 != 0) = false := bne_eq_false_iff_eq.mpr c8
     clear c8
     replace H := Option.bind_eq_some_iff.mp H
     obtain ⟨t152, A90, H⟩ := H
     replace H : (if t152 = t150 then (if (l0.length : Int) < (wrap64 (13 + (wrap64 (8 * t150)))) then (some (0, 0, ([] : List (S95)), 14)) else (r13_Get.l0 k l0 (wrap64 (t148 + 1)) (wrap64 (t149 + 1)) t150 (wrap64 (13 + (wrap64 (8 * t150)))) (([] : List (S95))) 0)) else (some (0, 0, ([] : List (S95)), 6))) = some (r1, r2, r3, r4) := H
     have A9 := Ad.mk A90
     clear A90
     by_cases c10 : t152 = t150
     ·rw [if_pos c10] at H
      have c10b0 : (t152 == t150) = true := beq_iff_eq.mpr c10
      have c10b1 : (t152 != t150) = false := bne_eq_false_iff_eq.mpr c10
      clear c10
      by_cases c11 : (l0.length : Int) < (wrap64 (13 + (wrap64 (8 * t150))))
      ·rw [if_pos c11] at H
       have c11b0 : decide ((l0.length : Int) < (wrap64 (13 + (wrap64 (8 * t150))))) = true := decide_eq_true c11
       clear c11
       simp only [Option.some.injEq, Prod.mk.injEq] at H
       obtain ⟨rfl, rfl, rfl, rfl⟩ := H
       obtain ⟨i012, hi012, _, hsz12, _⟩ := info_parts info5
       obtain ⟨hcut12, hA12, hC12⟩ := print_take_of (P := Tryz.prog) (Value.int .u8) 0 27 5 .i64 Tryz.underlying27 hi012 hsz12 A0 c0 l0 5 (by omega) (of_decide_eq_true (by first | (with_reducible assumption) | assumption)) HC0.out
       have e5 : l0.take (5 : Int).toNat = y147 := Ny147.out.symm
       rw [e5] at hcut12 hA12 hC12
       clear e5
       have HR147 := Ad.mk (Kd.C_of_reads (h1 := fun _ => rfl) (hA12 _ (Kd.reads_of_C HR0.out)))
       have HC147 := Ad.mk hC12
       clear hA12 hC12 hi012 hsz12
       have hcv13 := Kd.C_string (P := Tryz.prog) (A := A0) (c := c0) Tryz.underlying27 Tryz.underlying5 Tryz.underlying9 HR147.out
       go_enter Tryz.func28, Tryz.ntmps28
       go_wp2_with (first | ((with_reducible refine gate_callee (f := 51) rfl ?_); refine goesL_ (some 22) rfl rfl Tryz.func51 (by kernel_rfl) rfl #[.slice A0 l0.length c0, .int .i64 5, .int .i64 2] rfl (by (try simp only [List.map_toArray, List.map_cons, List.map_nil]); first | done | rfl | (simp only [List.length_drop, List.length_take]; rfl)) ?_; (with_reducible refine (r13_get.calls k _ _ l0 5 2 t148 _ ?side1 ?side2 A5.out).mono ?_); (case side1 => repeat (first | exact HR0.out | (with_reducible refine Kd.C_alloc ?_ _) | (with_reducible refine Kd.C_drewN ?_ _) | (with_reducible refine Kd.C_drew ?_))); (case side2 => exact HC0.out); rintro e w' ⟨rfl, ⟨nd, rfl⟩⟩; refine ⟨_, rfl, ?_⟩) | ((with_reducible refine gate_callee (f := 51) rfl ?_); refine goesL_ (some 25) rfl rfl Tryz.func51 (by kernel_rfl) rfl #[.slice A0 l0.length c0, .int .i64 7, .int .i64 2] rfl (by (try simp only [List.map_toArray, List.map_cons, List.map_nil]); first | done | rfl | (simp only [List.length_drop, List.length_take]; rfl)) ?_; (with_reducible refine (r13_get.calls k _ _ l0 7 2 t149 _ ?side1 ?side2 A6.out).mono ?_); (case side1 => repeat (first | exact HR0.out | (with_reducible refine Kd.C_alloc ?_ _) | (with_reducible refine Kd.C_drewN ?_ _) | (with_reducible refine Kd.C_drew ?_))); (case side2 => exact HC0.out); rintro e w' ⟨rfl, ⟨nd, rfl⟩⟩; refine ⟨_, rfl, ?_⟩) | ((with_reducible refine gate_callee (f := 52) rfl ?_); refine goesL_ (some 30) rfl rfl Tryz.func52 (by kernel_rfl) rfl #[.int .i64 (wrap64 (t148 + 1)), .int .i64 (wrap64 (t149 + 1))] rfl (by (try simp only [List.map_toArray, List.map_cons, List.map_nil]); first | done | rfl | (simp only [List.length_drop, List.length_take]; rfl)) ?_; (with_reducible refine (r13_Tiles.calls k (wrap64 (t148 + 1)) (wrap64 (t149 + 1)) t150 t151 _ A7.out).mono ?_); rintro e w14 ⟨rfl, hb⟩; refine ⟨_, rfl, ?_⟩; have n0_ := Ad.mk (below_step (by repeat (first | (with_reducible first | exact HB.out | apply bwA | apply bwN | apply bw1) | exact HB.out)) hb); clear HB; have HB := n0_; clear n0_; (try clear hb); (try clear hb2); (try clear hk); (try clear hi)) | ((with_reducible refine gate_callee (f := 51) rfl ?_); refine goesL_ (some 37) rfl rfl Tryz.func51 (by kernel_rfl) rfl #[.slice A0 l0.length c0, .int .i64 9, .int .i64 4] rfl (by (try simp only [List.map_toArray, List.map_cons, List.map_nil]); first | done | rfl | (simp only [List.length_drop, List.length_take]; rfl)) ?_; (with_reducible refine (r13_get.calls k _ _ l0 9 4 t152 _ ?side1 ?side2 A9.out).mono ?_); (case side1 => repeat (first | exact (Kd.C_below HR0.out HB.out) | (with_reducible refine Kd.C_alloc ?_ _) | (with_reducible refine Kd.C_drewN ?_ _) | (with_reducible refine Kd.C_drew ?_))); (case side2 => exact HC0.out); rintro e w' ⟨rfl, ⟨nd, rfl⟩⟩; refine ⟨_, rfl, ?_⟩))
       refine bodyPost_ret (results_list (rs := [.tmp 2, .tmp 3, .tmp 4, .tmp 5]) rfl (by simp) (.tmp (.tmp (.tmp (.tmp .nil))))) rfl ?_
       exact ⟨_, by first | rfl | (simp [errW_none, errW_some] <;> rfl) | (simp [*, errW_none, errW_some] <;> rfl), by first | exact Kd.R_nil _ _ _ _ _ | exact Kd.N_nil _ _ _ _ _ | exact Kd.V_nil _ _ _ _ _ | exact Kd.Q_nil _ _ _ _ _ | exact Kd.S_nil _ _ _ _ _, by repeat (first | (with_reducible first | exact HB.out | apply bwA | apply bwN | apply bw1) | exact HB.out)⟩
      ·rw [if_neg c11] at H
       have c11b0 : decide ((l0.length : Int) < (wrap64 (13 + (wrap64 (8 * t150))))) = false := decide_eq_false c11
       clear c11
       obtain ⟨y153, hy153⟩ : ∃ y_ : List (S95), y_ = (([] : List (S95))) := ⟨_, rfl⟩
       replace H : (r13_Get.l0 k l0 (wrap64 (t148 + 1)) (wrap64 (t149 + 1)) t150 (wrap64 (13 + (wrap64 (8 * t150)))) y153 0) = some (r1, r2, r3, r4) := by first | (rw [hy153]; with_reducible exact H) | (have H2_ := (Option.bind_some _ _).symm.trans H; rw [hy153]; with_reducible exact H2_) | (have H2_ := (Option.bind_some _ _).symm.trans H; with_reducible exact H2_) | with_reducible exact H | (rw [hy153]; exact H) | exact H
       have Ny153 := Ad.mk hy153
       clear hy153
       have H' := Ad.mk H
       clear H
       obtain ⟨i015, hi015, _, hsz15, _⟩ := info_parts info5
       obtain ⟨hcut15, hA15, hC15⟩ := print_take_of (P := Tryz.prog) (Value.int .u8) 0 27 5 .i64 Tryz.underlying27 hi015 hsz15 A0 c0 l0 5 (by omega) (of_decide_eq_true (by first | (with_reducible assumption) | assumption)) HC0.out
       have e5 : l0.take (5 : Int).toNat = y147 := Ny147.out.symm
       rw [e5] at hcut15 hA15 hC15
       clear e5
       have HR147 := Ad.mk (Kd.C_of_reads (h1 := fun _ => rfl) (hA15 _ (Kd.reads_of_C HR0.out)))
       have HC147 := Ad.mk hC15
       clear hA15 hC15 hi015 hsz15
       have hcv16 := Kd.C_string (P := Tryz.prog) (A := A0) (c := c0) Tryz.underlying27 Tryz.underlying5 Tryz.underlying9 HR147.out
       go_enter Tryz.func28, Tryz.ntmps28
       go_wp2_with (first | ((with_reducible refine gate_callee (f := 51) rfl ?_); refine goesL_ (some 22) rfl rfl Tryz.func51 (by kernel_rfl) rfl #[.slice A0 l0.length c0, .int .i64 5, .int .i64 2] rfl (by (try simp only [List.map_toArray, List.map_cons, List.map_nil]); first | done | rfl | (simp only [List.length_drop, List.length_take]; rfl)) ?_; (with_reducible refine (r13_get.calls k _ _ l0 5 2 t148 _ ?side1 ?side2 A5.out).mono ?_); (case side1 => repeat (first | exact HR0.out | (with_reducible refine Kd.C_alloc ?_ _) | (with_reducible refine Kd.C_drewN ?_ _) | (with_reducible refine Kd.C_drew ?_))); (case side2 => exact HC0.out); rintro e w' ⟨rfl, ⟨nd, rfl⟩⟩; refine ⟨_, rfl, ?_⟩) | ((with_reducible refine gate_callee (f := 51) rfl ?_); refine goesL_ (some 25) rfl rfl Tryz.func51 (by kernel_rfl) rfl #[.slice A0 l0.length c0, .int .i64 7, .int .i64 2] rfl (by (try simp only [List.map_toArray, List.map_cons, List.map_nil]); first | done | rfl | (simp only [List.length_drop, List.length_take]; rfl)) ?_; (with_reducible refine (r13_get.calls k _ _ l0 7 2 t149 _ ?side1 ?side2 A6.out).mono ?_); (case side1 => repeat (first | exact HR0.out | (with_reducible refine Kd.C_alloc ?_ _) | (with_reducible refine Kd.C_drewN ?_ _) | (with_reducible refine Kd.C_drew ?_))); (case side2 => exact HC0.out); rintro e w' ⟨rfl, ⟨nd, rfl⟩⟩; refine ⟨_, rfl, ?_⟩) | ((with_reducible refine gate_callee (f := 52) rfl ?_); refine goesL_ (some 30) rfl rfl Tryz.func52 (by kernel_rfl) rfl #[.int .i64 (wrap64 (t148 + 1)), .int .i64 (wrap64 (t149 + 1))] rfl (by (try simp only [List.map_toArray, List.map_cons, List.map_nil]); first | done | rfl | (simp only [List.length_drop, List.length_take]; rfl)) ?_; (with_reducible refine (r13_Tiles.calls k (wrap64 (t148 + 1)) (wrap64 (t149 + 1)) t150 t151 _ A7.out).mono ?_); rintro e w17 ⟨rfl, hb⟩; refine ⟨_, rfl, ?_⟩; have n0_ := Ad.mk (below_step (by repeat (first | (with_reducible first | exact HB.out | apply bwA | apply bwN | apply bw1) | exact HB.out)) hb); clear HB; have HB := n0_; clear n0_; (try clear hb); (try clear hb2); (try clear hk); (try clear hi)) | ((with_reducible refine gate_callee (f := 51) rfl ?_); refine goesL_ (some 37) rfl rfl Tryz.func51 (by kernel_rfl) rfl #[.slice A0 l0.length c0, .int .i64 9, .int .i64 4] rfl (by (try simp only [List.map_toArray, List.map_cons, List.map_nil]); first | done | rfl | (simp only [List.length_drop, List.length_take]; rfl)) ?_; (with_reducible refine (r13_get.calls k _ _ l0 9 4 t152 _ ?side1 ?side2 A9.out).mono ?_); (case side1 => repeat (first | exact (Kd.C_below HR0.out HB.out) | (with_reducible refine Kd.C_alloc ?_ _) | (with_reducible refine Kd.C_drewN ?_ _) | (with_reducible refine Kd.C_drew ?_))); (case side2 => exact HC0.out); rintro e w' ⟨rfl, ⟨nd, rfl⟩⟩; refine ⟨_, rfl, ?_⟩) | ((with_reducible refine gate_dst (N := 49) rfl ?_); refine Kd.R_lit k95 _ 95 ?hg (N := 49) ?hd (xs := ([] : List (S95))) (inner := []) (ok := fun _ => True) (okp := fun _ => True) ?hr ?hp (fun _ hk => hk) trivial (Below.refl _ _) (Nat.le_refl _) (by simp) ?_; (case hd => rfl); (case hg => rfl); (case hr => first | (go_simp; done) | (go_simp; rfl)); (case hp => exact (Reps.none _ _)); intro v154 w18 ho19 hb hg_ hnew_; clear hg_ hnew_; (first | rw [← Ny153.out] at ho19 | (simp only [Int.reduceToNat] at ho19; rw [← Ny153.out] at ho19)); have n0_ := Ad.mk (Kd.R_lower ho19 (below_size (by repeat (first | (with_reducible first | exact HB.out | apply bwA | apply bwN | apply bw1) | exact HB.out)))); have n1_ := Ad.mk (below_step (by repeat (first | (with_reducible first | exact HB.out | apply bwA | apply bwN | apply bw1) | exact HB.out)) hb); clear HB; have HO155 := n0_; have HB := n1_; clear n0_ n1_; clear hb ho19))
       go_loopg [10, 11, 12] k (fun kq v10 v11 v12 w' => ∃ (x10_1 : Int) (x11_1 : List (S95)) (x12_1 : Int), v10 = .int .i64 x10_1 ∧ v12 = .int .i64 x12_1 ∧ Ad (r13_Get.l0 kq l0 (wrap64 (t148 + 1)) (wrap64 (t149 + 1)) t150 x10_1 x11_1 x12_1 = some (r1, r2, r3, r4)) ∧ Ad (kq ≤ k) ∧ Ad (Kd.R k95 95 w' w.heap.size (fun _ => True) v11 x11_1) ∧ Ad (Below w.heap.size w w'))
       case atStart => exact ⟨(wrap64 (13 + (wrap64 (8 * t150)))), (y153), (0), (by first | rfl | (simp; done) | (simp [*]; done)), (by first | rfl | (simp; done) | (simp [*]; done)), H', ⟨Nat.le_refl _⟩, ⟨by (with_reducible repeat (first | apply Kd.R_alloc | apply Kd.R_drewN | apply Kd.R_drew)); exact HO155.out⟩, ⟨by repeat (first | (with_reducible first | exact HB.out | apply bwA | apply bwN | apply bw1) | exact HB.out)⟩⟩
       case round =>
        clear H'
        try clear c1
        try clear hcv1
        try clear c2
        try clear c2b0
        try clear c2b1
        try clear p2
        try clear c3
        try clear c3b0
        try clear c3b1
        try clear c4
        try clear c4b0
        try clear c4b1
        try clear c5
        try clear p6
        try clear c8
        try clear c8b0
        try clear c8b1
        try clear c10
        try clear c10b0
        try clear c10b1
        try clear c11
        try clear c11b0
        try clear hcv13
        try clear hcv16
        obtain ⟨x10_1, x11_1, x12_1, rfl, rfl, HA, HK1, HO_11, HB⟩ := hrel
        cases gk with
        | zero => exact absurd HA.out (by simp [r13_Get.l0])
        | succ k1 =>
         have H := HA.out
         clear HA
         simp only [r13_Get.l0] at H
         by_cases c20 : x12_1 < t150
         ·rw [if_pos c20] at H
          have c20b0 : decide (x12_1 < t150) = true := decide_eq_true c20
          clear c20
          replace H := Option.bind_eq_some_iff.mp H
          obtain ⟨t156, A210, H⟩ := H
          replace H : ((r13_get.f k1 l0 (wrap64 (17 + (wrap64 (8 * x12_1)))) 4).bind fun t157 => (if t156 = x10_1 then (if t157 < 1 then (some (0, 0, ([] : List (S95)), 13)) else (if t157 > 1048576 then (some (0, 0, ([] : List (S95)), 13)) else (if x11_1.length < 8796093022208 then (r13_Get.l0 k1 l0 (wrap64 (t148 + 1)) (wrap64 (t149 + 1)) t150 (wrap64 (x10_1 + t157)) (x11_1 ++ [(⟨t156, t157⟩ : S95)]) (wrap64 (x12_1 + 1))) else (none)))) else (some (0, 0, ([] : List (S95)), 13)))) = some (r1, r2, r3, r4) := H
          have A21 := Ad.mk A210
          clear A210
          replace H := Option.bind_eq_some_iff.mp H
          obtain ⟨t157, A220, H⟩ := H
          replace H : (if t156 = x10_1 then (if t157 < 1 then (some (0, 0, ([] : List (S95)), 13)) else (if t157 > 1048576 then (some (0, 0, ([] : List (S95)), 13)) else (if x11_1.length < 8796093022208 then (r13_Get.l0 k1 l0 (wrap64 (t148 + 1)) (wrap64 (t149 + 1)) t150 (wrap64 (x10_1 + t157)) (x11_1 ++ [(⟨t156, t157⟩ : S95)]) (wrap64 (x12_1 + 1))) else (none)))) else (some (0, 0, ([] : List (S95)), 13))) = some (r1, r2, r3, r4) := H
          have A22 := Ad.mk A220
          clear A220
          by_cases c23 : t156 = x10_1
          ·rw [if_pos c23] at H
           have c23b0 : (t156 == x10_1) = true := beq_iff_eq.mpr c23
           have c23b1 : (t156 != x10_1) = false := bne_eq_false_iff_eq.mpr c23
           clear c23
           by_cases c24 : t157 < 1
           ·rw [if_pos c24] at H
            have c24b0 : decide (t157 < 1) = true := decide_eq_true c24
            clear c24
            simp only [Option.some.injEq, Prod.mk.injEq] at H
            obtain ⟨rfl, rfl, rfl, rfl⟩ := H
            go_wp2_with (first | ((with_reducible refine gate_callee (f := 51) rfl ?_); refine goesL_ (some 59) rfl rfl Tryz.func51 (by kernel_rfl) rfl #[.slice A0 l0.length c0, .int .i64 (wrap64 (13 + (wrap64 (8 * x12_1)))), .int .i64 4] rfl (by (try simp only [List.map_toArray, List.map_cons, List.map_nil]); first | done | rfl | (simp only [List.length_drop, List.length_take]; rfl)) ?_; (with_reducible refine (r13_get.calls k1 _ _ l0 (wrap64 (13 + (wrap64 (8 * x12_1)))) 4 t156 _ ?side1 ?side2 A21.out).mono ?_); (case side1 => repeat (first | exact (Kd.C_below HR0.out HB.out) | (with_reducible refine Kd.C_alloc ?_ _) | (with_reducible refine Kd.C_drewN ?_ _) | (with_reducible refine Kd.C_drew ?_))); (case side2 => exact HC0.out); rintro e w' ⟨rfl, ⟨nd, rfl⟩⟩; refine ⟨_, rfl, ?_⟩; (try (rw [drewN_self wr]; generalize hq_ : World.drewN wr _ = wr; have n0_ : Ad (Kd.R k95 95 wr w.heap.size (fun _ => True) u11 x11_1) := ⟨by rw [← hq_]; exact (by (with_reducible repeat (first | apply Kd.R_alloc | apply Kd.R_drewN | apply Kd.R_drew)); exact HO_11.out)⟩; have n1_ : Ad (Below w.heap.size w wr) := ⟨by rw [← hq_]; exact (by repeat (first | (with_reducible first | exact HB.out | apply bwA | apply bwN | apply bw1) | exact HB.out))⟩; clear HO_11 HB hq_; have HO_11 := n0_; have HB := n1_; clear n0_ n1_))) | ((with_reducible refine gate_callee (f := 51) rfl ?_); refine goesL_ (some 64) rfl rfl Tryz.func51 (by kernel_rfl) rfl #[.slice A0 l0.length c0, .int .i64 (wrap64 (17 + (wrap64 (8 * x12_1)))), .int .i64 4] rfl (by (try simp only [List.map_toArray, List.map_cons, List.map_nil]); first | done | rfl | (simp only [List.length_drop, List.length_take]; rfl)) ?_; (with_reducible refine (r13_get.calls k1 _ _ l0 (wrap64 (17 + (wrap64 (8 * x12_1)))) 4 t157 _ ?side1 ?side2 A22.out).mono ?_); (case side1 => repeat (first | exact (Kd.C_below HR0.out HB.out) | (with_reducible refine Kd.C_alloc ?_ _) | (with_reducible refine Kd.C_drewN ?_ _) | (with_reducible refine Kd.C_drew ?_))); (case side2 => exact HC0.out); rintro e w' ⟨rfl, ⟨nd, rfl⟩⟩; refine ⟨_, rfl, ?_⟩; (try (rw [drewN_self wr]; generalize hq_ : World.drewN wr _ = wr; have n0_ : Ad (Kd.R k95 95 wr w.heap.size (fun _ => True) u11 x11_1) := ⟨by rw [← hq_]; exact (by (with_reducible repeat (first | apply Kd.R_alloc | apply Kd.R_drewN | apply Kd.R_drew)); exact HO_11.out)⟩; have n1_ : Ad (Below w.heap.size w wr) := ⟨by rw [← hq_]; exact (by repeat (first | (with_reducible first | exact HB.out | apply bwA | apply bwN | apply bw1) | exact HB.out))⟩; clear HO_11 HB hq_; have HO_11 := n0_; have HB := n1_; clear n0_ n1_))) | ((with_reducible refine gate_dst (N := 13) rfl ?_); refine box_event ?hg (N := 13) ?hd (cs := #[.int .i64 0, .int .i64 0]) (t := 95) ?hr ?_; (case hd => rfl); (case hg => rfl); (case hr => first | (go_simp; done) | (go_simp; rfl)); intro gb158 hg w25 hbox hb; have n0_ := Ad.mk (Kd.R_below (Kd.R_elderB (by (with_reducible repeat (first | apply Kd.R_alloc | apply Kd.R_drewN | apply Kd.R_drew)); exact HO_11.out) gb158 (Nat.le_of_eq hg.symm)) hb); have n1_ := Ad.mk (below_step (by repeat (first | (with_reducible first | exact HB.out | apply bwA | apply bwN | apply bw1) | exact HB.out)) hb); have n2_ := Ad.mk (hbox); have n3_ := Ad.mk ((by rw [hg]; exact (below_size (by repeat (first | (with_reducible first | exact HB.out | apply bwA | apply bwN | apply bw1) | exact HB.out))) : w.heap.size ≤ gb158)); have n4_ := Ad.mk ((by rw [hg]; exact (below_size (by repeat (first | (with_reducible first | exact HB.out | apply bwA | apply bwN | apply bw1) | exact HB.out))) : w.heap.size ≤ gb158)); clear HO_11; clear HB; have HO_11 := n0_; have HB := n1_; have BK158 := n2_; have GW158 := n3_; have GE158 := n4_; clear n0_ n1_ n2_ n3_ n4_; clear hb hbox hg; have hcz26_0 : w25.cell? ⟨gb158, 0, none⟩ = some (.int .i64 0) := (bkC BK158.out 0).trans rfl; have hcz26_1 : w25.cell? ⟨gb158, 1, none⟩ = some (.int .i64 0) := (bkC BK158.out 1).trans rfl; have hfz26_0 := bkF BK158.out 0; have hfz26_1 := bkF BK158.out 1))
            refine bodyPost_ret (results_list (rs := [.tmp 2, .tmp 3, .tmp 4, .tmp 5]) rfl (by simp) (.tmp (.tmp (.tmp (.tmp .nil))))) rfl ?_
            exact ⟨_, by first | rfl | (simp [errW_none, errW_some] <;> rfl) | (simp [*, errW_none, errW_some] <;> rfl), by first | exact Kd.R_nil _ _ _ _ _ | exact Kd.N_nil _ _ _ _ _ | exact Kd.V_nil _ _ _ _ _ | exact Kd.Q_nil _ _ _ _ _ | exact Kd.S_nil _ _ _ _ _, by repeat (first | (with_reducible first | exact HB.out | apply bwA | apply bwN | apply bw1 | refine bwS ?_ GE158.out) | exact HB.out)⟩
           ·rw [if_neg c24] at H
            have c24b0 : decide (t157 < 1) = false := decide_eq_false c24
            clear c24
            by_cases c27 : t157 > 1048576
            ·rw [if_pos c27] at H
             have c27b0 : decide (1048576 < t157) = true := decide_eq_true c27
             clear c27
             simp only [Option.some.injEq, Prod.mk.injEq] at H
             obtain ⟨rfl, rfl, rfl, rfl⟩ := H
             go_wp2_with (first | ((with_reducible refine gate_callee (f := 51) rfl ?_); refine goesL_ (some 59) rfl rfl Tryz.func51 (by kernel_rfl) rfl #[.slice A0 l0.length c0, .int .i64 (wrap64 (13 + (wrap64 (8 * x12_1)))), .int .i64 4] rfl (by (try simp only [List.map_toArray, List.map_cons, List.map_nil]); first | done | rfl | (simp only [List.length_drop, List.length_take]; rfl)) ?_; (with_reducible refine (r13_get.calls k1 _ _ l0 (wrap64 (13 + (wrap64 (8 * x12_1)))) 4 t156 _ ?side1 ?side2 A21.out).mono ?_); (case side1 => repeat (first | exact (Kd.C_below HR0.out HB.out) | (with_reducible refine Kd.C_alloc ?_ _) | (with_reducible refine Kd.C_drewN ?_ _) | (with_reducible refine Kd.C_drew ?_))); (case side2 => exact HC0.out); rintro e w' ⟨rfl, ⟨nd, rfl⟩⟩; refine ⟨_, rfl, ?_⟩; (try (rw [drewN_self wr]; generalize hq_ : World.drewN wr _ = wr; have n0_ : Ad (Kd.R k95 95 wr w.heap.size (fun _ => True) u11 x11_1) := ⟨by rw [← hq_]; exact (by (with_reducible repeat (first | apply Kd.R_alloc | apply Kd.R_drewN | apply Kd.R_drew)); exact HO_11.out)⟩; have n1_ : Ad (Below w.heap.size w wr) := ⟨by rw [← hq_]; exact (by repeat (first | (with_reducible first | exact HB.out | apply bwA | apply bwN | apply bw1) | exact HB.out))⟩; clear HO_11 HB hq_; have HO_11 := n0_; have HB := n1_; clear n0_ n1_))) | ((with_reducible refine gate_callee (f := 51) rfl ?_); refine goesL_ (some 64) rfl rfl Tryz.func51 (by kernel_rfl) rfl #[.slice A0 l0.length c0, .int .i64 (wrap64 (17 + (wrap64 (8 * x12_1)))), .int .i64 4] rfl (by (try simp only [List.map_toArray, List.map_cons, List.map_nil]); first | done | rfl | (simp only [List.length_drop, List.length_take]; rfl)) ?_; (with_reducible refine (r13_get.calls k1 _ _ l0 (wrap64 (17 + (wrap64 (8 * x12_1)))) 4 t157 _ ?side1 ?side2 A22.out).mono ?_); (case side1 => repeat (first | exact (Kd.C_below HR0.out HB.out) | (with_reducible refine Kd.C_alloc ?_ _) | (with_reducible refine Kd.C_drewN ?_ _) | (with_reducible refine Kd.C_drew ?_))); (case side2 => exact HC0.out); rintro e w' ⟨rfl, ⟨nd, rfl⟩⟩; refine ⟨_, rfl, ?_⟩; (try (rw [drewN_self wr]; generalize hq_ : World.drewN wr _ = wr; have n0_ : Ad (Kd.R k95 95 wr w.heap.size (fun _ => True) u11 x11_1) := ⟨by rw [← hq_]; exact (by (with_reducible repeat (first | apply Kd.R_alloc | apply Kd.R_drewN | apply Kd.R_drew)); exact HO_11.out)⟩; have n1_ : Ad (Below w.heap.size w wr) := ⟨by rw [← hq_]; exact (by repeat (first | (with_reducible first | exact HB.out | apply bwA | apply bwN | apply bw1) | exact HB.out))⟩; clear HO_11 HB hq_; have HO_11 := n0_; have HB := n1_; clear n0_ n1_))) | ((with_reducible refine gate_dst (N := 13) rfl ?_); refine box_event ?hg (N := 13) ?hd (cs := #[.int .i64 0, .int .i64 0]) (t := 95) ?hr ?_; (case hd => rfl); (case hg => rfl); (case hr => first | (go_simp; done) | (go_simp; rfl)); intro gb158 hg w28 hbox hb; have n0_ := Ad.mk (Kd.R_below (Kd.R_elderB (by (with_reducible repeat (first | apply Kd.R_alloc | apply Kd.R_drewN | apply Kd.R_drew)); exact HO_11.out) gb158 (Nat.le_of_eq hg.symm)) hb); have n1_ := Ad.mk (below_step (by repeat (first | (with_reducible first | exact HB.out | apply bwA | apply bwN | apply bw1) | exact HB.out)) hb); have n2_ := Ad.mk (hbox); have n3_ := Ad.mk ((by rw [hg]; exact (below_size (by repeat (first | (with_reducible first | exact HB.out | apply bwA | apply bwN | apply bw1) | exact HB.out))) : w.heap.size ≤ gb158)); have n4_ := Ad.mk ((by rw [hg]; exact (below_size (by repeat (first | (with_reducible first | exact HB.out | apply bwA | apply bwN | apply bw1) | exact HB.out))) : w.heap.size ≤ gb158)); clear HO_11; clear HB; have HO_11 := n0_; have HB := n1_; have BK158 := n2_; have GW158 := n3_; have GE158 := n4_; clear n0_ n1_ n2_ n3_ n4_; clear hb hbox hg; have hcz29_0 : w28.cell? ⟨gb158, 0, none⟩ = some (.int .i64 0) := (bkC BK158.out 0).trans rfl; have hcz29_1 : w28.cell? ⟨gb158, 1, none⟩ = some (.int .i64 0) := (bkC BK158.out 1).trans rfl; have hfz29_0 := bkF BK158.out 0; have hfz29_1 := bkF BK158.out 1))
             refine bodyPost_ret (results_list (rs := [.tmp 2, .tmp 3, .tmp 4, .tmp 5]) rfl (by simp) (.tmp (.tmp (.tmp (.tmp .nil))))) rfl ?_
             exact ⟨_, by first | rfl | (simp [errW_none, errW_some] <;> rfl) | (simp [*, errW_none, errW_some] <;> rfl), by first | exact Kd.R_nil _ _ _ _ _ | exact Kd.N_nil _ _ _ _ _ | exact Kd.V_nil _ _ _ _ _ | exact Kd.Q_nil _ _ _ _ _ | exact Kd.S_nil _ _ _ _ _, by repeat (first | (with_reducible first | exact HB.out | apply bwA | apply bwN | apply bw1 | refine bwS ?_ GE158.out) | exact HB.out)⟩
            ·rw [if_neg c27] at H
             have c27b0 : decide (1048576 < t157) = false := decide_eq_false c27
             clear c27
             by_cases c30 : x11_1.length < 8796093022208
             ·rw [if_pos c30] at H
              have LMc30 := Ad.mk c30
              clear c30
              obtain ⟨y159, hy159⟩ : ∃ y_ : List (S95), y_ = (x11_1 ++ [(⟨t156, t157⟩ : S95)]) := ⟨_, rfl⟩
              replace H : (r13_Get.l0 k1 l0 (wrap64 (t148 + 1)) (wrap64 (t149 + 1)) t150 (wrap64 (x10_1 + t157)) y159 (wrap64 (x12_1 + 1))) = some (r1, r2, r3, r4) := by first | (rw [hy159]; with_reducible exact H) | (have H2_ := (Option.bind_some _ _).symm.trans H; rw [hy159]; with_reducible exact H2_) | (have H2_ := (Option.bind_some _ _).symm.trans H; with_reducible exact H2_) | with_reducible exact H | (rw [hy159]; exact H) | exact H
              have Ny159 := Ad.mk hy159
              clear hy159
              have H' := Ad.mk H
              clear H
              go_wp2_with (first | ((with_reducible refine gate_callee (f := 51) rfl ?_); refine goesL_ (some 59) rfl rfl Tryz.func51 (by kernel_rfl) rfl #[.slice A0 l0.length c0, .int .i64 (wrap64 (13 + (wrap64 (8 * x12_1)))), .int .i64 4] rfl (by (try simp only [List.map_toArray, List.map_cons, List.map_nil]); first | done | rfl | (simp only [List.length_drop, List.length_take]; rfl)) ?_; (with_reducible refine (r13_get.calls k1 _ _ l0 (wrap64 (13 + (wrap64 (8 * x12_1)))) 4 t156 _ ?side1 ?side2 A21.out).mono ?_); (case side1 => repeat (first | exact (Kd.C_below HR0.out HB.out) | (with_reducible refine Kd.C_alloc ?_ _) | (with_reducible refine Kd.C_drewN ?_ _) | (with_reducible refine Kd.C_drew ?_))); (case side2 => exact HC0.out); rintro e w' ⟨rfl, ⟨nd, rfl⟩⟩; refine ⟨_, rfl, ?_⟩; (try (rw [drewN_self wr]; generalize hq_ : World.drewN wr _ = wr; have n0_ : Ad (Kd.R k95 95 wr w.heap.size (fun _ => True) u11 x11_1) := ⟨by rw [← hq_]; exact (by (with_reducible repeat (first | apply Kd.R_alloc | apply Kd.R_drewN | apply Kd.R_drew)); exact HO_11.out)⟩; have n1_ : Ad (Below w.heap.size w wr) := ⟨by rw [← hq_]; exact (by repeat (first | (with_reducible first | exact HB.out | apply bwA | apply bwN | apply bw1) | exact HB.out))⟩; clear HO_11 HB hq_; have HO_11 := n0_; have HB := n1_; clear n0_ n1_))) | ((with_reducible refine gate_callee (f := 51) rfl ?_); refine goesL_ (some 64) rfl rfl Tryz.func51 (by kernel_rfl) rfl #[.slice A0 l0.length c0, .int .i64 (wrap64 (17 + (wrap64 (8 * x12_1)))), .int .i64 4] rfl (by (try simp only [List.map_toArray, List.map_cons, List.map_nil]); first | done | rfl | (simp only [List.length_drop, List.length_take]; rfl)) ?_; (with_reducible refine (r13_get.calls k1 _ _ l0 (wrap64 (17 + (wrap64 (8 * x12_1)))) 4 t157 _ ?side1 ?side2 A22.out).mono ?_); (case side1 => repeat (first | exact (Kd.C_below HR0.out HB.out) | (with_reducible refine Kd.C_alloc ?_ _) | (with_reducible refine Kd.C_drewN ?_ _) | (with_reducible refine Kd.C_drew ?_))); (case side2 => exact HC0.out); rintro e w' ⟨rfl, ⟨nd, rfl⟩⟩; refine ⟨_, rfl, ?_⟩; (try (rw [drewN_self wr]; generalize hq_ : World.drewN wr _ = wr; have n0_ : Ad (Kd.R k95 95 wr w.heap.size (fun _ => True) u11 x11_1) := ⟨by rw [← hq_]; exact (by (with_reducible repeat (first | apply Kd.R_alloc | apply Kd.R_drewN | apply Kd.R_drew)); exact HO_11.out)⟩; have n1_ : Ad (Below w.heap.size w wr) := ⟨by rw [← hq_]; exact (by repeat (first | (with_reducible first | exact HB.out | apply bwA | apply bwN | apply bw1) | exact HB.out))⟩; clear HO_11 HB hq_; have HO_11 := n0_; have HB := n1_; clear n0_ n1_))) | ((with_reducible refine gate_dst (N := 13) rfl ?_); refine box_event ?hg (N := 13) ?hd (cs := #[.int .i64 0, .int .i64 0]) (t := 95) ?hr ?_; (case hd => rfl); (case hg => rfl); (case hr => first | (go_simp; done) | (go_simp; rfl)); intro gb158 hg w31 hbox hb; have n0_ := Ad.mk (Kd.R_below (Kd.R_elderB (by (with_reducible repeat (first | apply Kd.R_alloc | apply Kd.R_drewN | apply Kd.R_drew)); exact HO_11.out) gb158 (Nat.le_of_eq hg.symm)) hb); have n1_ := Ad.mk (below_step (by repeat (first | (with_reducible first | exact HB.out | apply bwA | apply bwN | apply bw1) | exact HB.out)) hb); have n2_ := Ad.mk (hbox); have n3_ := Ad.mk ((by rw [hg]; exact (below_size (by repeat (first | (with_reducible first | exact HB.out | apply bwA | apply bwN | apply bw1) | exact HB.out))) : w.heap.size ≤ gb158)); have n4_ := Ad.mk ((by rw [hg]; exact (below_size (by repeat (first | (with_reducible first | exact HB.out | apply bwA | apply bwN | apply bw1) | exact HB.out))) : w.heap.size ≤ gb158)); clear HO_11; clear HB; have HO_11 := n0_; have HB := n1_; have BK158 := n2_; have GW158 := n3_; have GE158 := n4_; clear n0_ n1_ n2_ n3_ n4_; clear hb hbox hg; have hcz32_0 : w31.cell? ⟨gb158, 0, none⟩ = some (.int .i64 0) := (bkC BK158.out 0).trans rfl; have hcz32_1 : w31.cell? ⟨gb158, 1, none⟩ = some (.int .i64 0) := (bkC BK158.out 1).trans rfl; have hfz32_0 := bkF BK158.out 0; have hfz32_1 := bkF BK158.out 1) | ((with_reducible refine gate_builtin (b := .append) (xs := #[.tmp 80, .tmp 82]) rfl ?_); at_builtin; refine Kd.R_append k95 (w0 := w) w.heap.size rfl (.tmp 80) (.tmp 82) 88 95 (.agg #[(.int .i64 0), (.int .i64 0)]) 16 rfl Tryz.underlying88 info95 rfl (by decide) (by omega) u11 x11_1 (⟨t156, t157⟩ : S95) [.int .i64 t156, .int .i64 t157] (fun k_ => k_ ≠ gb158) (fun _ => False) rfl (by first | (go_simp; done) | (go_simp; rfl)) ?aP (fun _ hk => hk.elim) ?aF ?aO ?aB ?aS ?aL ?_; (case aP => exact k95_mkM _ _ _ (⟨t156, t157⟩ : S95)); (case aB => exact (by repeat (first | (with_reducible first | exact HB.out | apply bwA | apply bwN | apply bw1 | refine bwS ?_ GE158.out) | exact HB.out))); (case aF => exact (fun k_ hk => Kd.freshB (g := gb158) (o := .cells #[.int .i64 t156, .int .i64 t157] 95 (0, 0)) (by (with_reducible repeat (first | refine bkN ?_ _ | refine bkD ?_ | refine bkA ?_ _)); refine blk_put (cs := #[.int .i64 t156, .int .i64 0]) ?_ 1 _ rfl; (with_reducible repeat (first | refine bkN ?_ _ | refine bkD ?_ | refine bkA ?_ _)); refine blk_put (cs := #[.int .i64 0, .int .i64 0]) ?_ 0 _ rfl; (with_reducible repeat (first | refine bkN ?_ _ | refine bkD ?_ | refine bkA ?_ _)); exact BK158.out) k_ hk)); (case aO => exact (by (with_reducible repeat (first | apply Kd.R_alloc | apply Kd.R_drewN | apply Kd.R_drew)); exact Kd.R_mono (Kd.R_far (p := ⟨gb158, 1, none⟩) (Kd.R_far (p := ⟨gb158, 0, none⟩) (Kd.R_mono HO_11.out (fun k_ hk => (⟨hk, hk.2⟩ : _ ∧ k_ ≠ gb158))) (fun _ hk => hk.2) (.int .i64 t156)) (fun _ hk => hk.2) (.int .i64 t157)) (fun _ hk => hk.1.2))); (case aS => exact (below_size (by repeat (first | (with_reducible first | exact HB.out | apply bwA | apply bwN | apply bw1 | refine bwS ?_ GE158.out) | exact HB.out)))); (case aL => have := LMc30.out; omega); intro v160 w33 ho hb hg hat; rw [← Ny159.out] at ho; have n0_ := Ad.mk (blk_grown (g := gb158) (o := .cells #[.int .i64 t156, .int .i64 t157] 95 (0, 0)) (by (with_reducible repeat (first | refine bkN ?_ _ | refine bkD ?_ | refine bkA ?_ _)); refine blk_put (cs := #[.int .i64 t156, .int .i64 0]) ?_ 1 _ rfl; (with_reducible repeat (first | refine bkN ?_ _ | refine bkD ?_ | refine bkA ?_ _)); refine blk_put (cs := #[.int .i64 0, .int .i64 0]) ?_ 0 _ rfl; (with_reducible repeat (first | refine bkN ?_ _ | refine bkD ?_ | refine bkA ?_ _)); exact BK158.out) hg (Kd.R_away HO_11.out (fun _ hk => hk.2))); have n1_ := Ad.mk (hb); have n2_ := Ad.mk (ho); clear BK158; clear HB; clear HO_11; have BK158 := n0_; have HB := n1_; have HO161 := n2_; clear n0_ n1_ n2_; clear ho hb hg hat; have hcz34_0 : w33.cell? ⟨gb158, 0, none⟩ = some (.int .i64 t156) := (bkC BK158.out 0).trans rfl; have hcz34_1 : w33.cell? ⟨gb158, 1, none⟩ = some (.int .i64 t157) := (bkC BK158.out 1).trans rfl; have hfz34_0 := bkF BK158.out 0; have hfz34_1 := bkF BK158.out 1))
              go_roundg k1
              case measure => have := HK1.out; omega
              case rel => exact ⟨(wrap64 (x10_1 + t157)), (y159), (wrap64 (x12_1 + 1)), (by first | rfl | (simp; done) | (simp [*]; done)), (by first | rfl | (simp; done) | (simp [*]; done)), H', ⟨by have := HK1.out; omega⟩, ⟨by (with_reducible repeat (first | apply Kd.R_alloc | apply Kd.R_drewN | apply Kd.R_drew)); exact Kd.R_mono HO161.out (fun _ hk => trivial)⟩, ⟨by repeat (first | (with_reducible first | exact HB.out | apply bwA | apply bwN | apply bw1 | refine bwS ?_ GE158.out) | exact HB.out)⟩⟩
             ·rw [if_neg c30] at H
              exact absurd H (by simp)
          ·rw [if_neg c23] at H
           have c23b0 : (t156 == x10_1) = false := beq_eq_false_iff_ne.mpr c23
           have c23b1 : (t156 != x10_1) = true := bne_iff_ne.mpr c23
           simp only [Option.some.injEq, Prod.mk.injEq] at H
           obtain ⟨rfl, rfl, rfl, rfl⟩ := H
           go_wp2_with (first | ((with_reducible refine gate_callee (f := 51) rfl ?_); refine goesL_ (some 59) rfl rfl Tryz.func51 (by kernel_rfl) rfl #[.slice A0 l0.length c0, .int .i64 (wrap64 (13 + (wrap64 (8 * x12_1)))), .int .i64 4] rfl (by (try simp only [List.map_toArray, List.map_cons, List.map_nil]); first | done | rfl | (simp only [List.length_drop, List.length_take]; rfl)) ?_; (with_reducible refine (r13_get.calls k1 _ _ l0 (wrap64 (13 + (wrap64 (8 * x12_1)))) 4 t156 _ ?side1 ?side2 A21.out).mono ?_); (case side1 => repeat (first | exact (Kd.C_below HR0.out HB.out) | (with_reducible refine Kd.C_alloc ?_ _) | (with_reducible refine Kd.C_drewN ?_ _) | (with_reducible refine Kd.C_drew ?_))); (case side2 => exact HC0.out); rintro e w' ⟨rfl, ⟨nd, rfl⟩⟩; refine ⟨_, rfl, ?_⟩; (try (rw [drewN_self wr]; generalize hq_ : World.drewN wr _ = wr; have n0_ : Ad (Kd.R k95 95 wr w.heap.size (fun _ => True) u11 x11_1) := ⟨by rw [← hq_]; exact (by (with_reducible repeat (first | apply Kd.R_alloc | apply Kd.R_drewN | apply Kd.R_drew)); exact HO_11.out)⟩; have n1_ : Ad (Below w.heap.size w wr) := ⟨by rw [← hq_]; exact (by repeat (first | (with_reducible first | exact HB.out | apply bwA | apply bwN | apply bw1) | exact HB.out))⟩; clear HO_11 HB hq_; have HO_11 := n0_; have HB := n1_; clear n0_ n1_))) | ((with_reducible refine gate_callee (f := 51) rfl ?_); refine goesL_ (some 64) rfl rfl Tryz.func51 (by kernel_rfl) rfl #[.slice A0 l0.length c0, .int .i64 (wrap64 (17 + (wrap64 (8 * x12_1)))), .int .i64 4] rfl (by (try simp only [List.map_toArray, List.map_cons, List.map_nil]); first | done | rfl | (simp only [List.length_drop, List.length_take]; rfl)) ?_; (with_reducible refine (r13_get.calls k1 _ _ l0 (wrap64 (17 + (wrap64 (8 * x12_1)))) 4 t157 _ ?side1 ?side2 A22.out).mono ?_); (case side1 => repeat (first | exact (Kd.C_below HR0.out HB.out) | (with_reducible refine Kd.C_alloc ?_ _) | (with_reducible refine Kd.C_drewN ?_ _) | (with_reducible refine Kd.C_drew ?_))); (case side2 => exact HC0.out); rintro e w' ⟨rfl, ⟨nd, rfl⟩⟩; refine ⟨_, rfl, ?_⟩; (try (rw [drewN_self wr]; generalize hq_ : World.drewN wr _ = wr; have n0_ : Ad (Kd.R k95 95 wr w.heap.size (fun _ => True) u11 x11_1) := ⟨by rw [← hq_]; exact (by (with_reducible repeat (first | apply Kd.R_alloc | apply Kd.R_drewN | apply Kd.R_drew)); exact HO_11.out)⟩; have n1_ : Ad (Below w.heap.size w wr) := ⟨by rw [← hq_]; exact (by repeat (first | (with_reducible first | exact HB.out | apply bwA | apply bwN | apply bw1) | exact HB.out))⟩; clear HO_11 HB hq_; have HO_11 := n0_; have HB := n1_; clear n0_ n1_))) | ((with_reducible refine gate_dst (N := 13) rfl ?_); refine box_event ?hg (N := 13) ?hd (cs := #[.int .i64 0, .int .i64 0]) (t := 95) ?hr ?_; (case hd => rfl); (case hg => rfl); (case hr => first | (go_simp; done) | (go_simp; rfl)); intro gb158 hg w35 hbox hb; have n0_ := Ad.mk (Kd.R_below (Kd.R_elderB (by (with_reducible repeat (first | apply Kd.R_alloc | apply Kd.R_drewN | apply Kd.R_drew)); exact HO_11.out) gb158 (Nat.le_of_eq hg.symm)) hb); have n1_ := Ad.mk (below_step (by repeat (first | (with_reducible first | exact HB.out | apply bwA | apply bwN | apply bw1) | exact HB.out)) hb); have n2_ := Ad.mk (hbox); have n3_ := Ad.mk ((by rw [hg]; exact (below_size (by repeat (first | (with_reducible first | exact HB.out | apply bwA | apply bwN | apply bw1) | exact HB.out))) : w.heap.size ≤ gb158)); have n4_ := Ad.mk ((by rw [hg]; exact (below_size (by repeat (first | (with_reducible first | exact HB.out | apply bwA | apply bwN | apply bw1) | exact HB.out))) : w.heap.size ≤ gb158)); clear HO_11; clear HB; have HO_11 := n0_; have HB := n1_; have BK158 := n2_; have GW158 := n3_; have GE158 := n4_; clear n0_ n1_ n2_ n3_ n4_; clear hb hbox hg; have hcz36_0 : w35.cell? ⟨gb158, 0, none⟩ = some (.int .i64 0) := (bkC BK158.out 0).trans rfl; have hcz36_1 : w35.cell? ⟨gb158, 1, none⟩ = some (.int .i64 0) := (bkC BK158.out 1).trans rfl; have hfz36_0 := bkF BK158.out 0; have hfz36_1 := bkF BK158.out 1))
           refine bodyPost_ret (results_list (rs := [.tmp 2, .tmp 3, .tmp 4, .tmp 5]) rfl (by simp) (.tmp (.tmp (.tmp (.tmp .nil))))) rfl ?_
           exact ⟨_, by first | rfl | (simp [errW_none, errW_some] <;> rfl) | (simp [*, errW_none, errW_some] <;> rfl), by first | exact Kd.R_nil _ _ _ _ _ | exact Kd.N_nil _ _ _ _ _ | exact Kd.V_nil _ _ _ _ _ | exact Kd.Q_nil _ _ _ _ _ | exact Kd.S_nil _ _ _ _ _, by repeat (first | (with_reducible first | exact HB.out | apply bwA | apply bwN | apply bw1 | refine bwS ?_ GE158.out) | exact HB.out)⟩
         ·rw [if_neg c20] at H
          have c20b0 : decide (x12_1 < t150) = false := decide_eq_false c20
          clear c20
          simp only [Option.some.injEq, Prod.mk.injEq] at H
          obtain ⟨rfl, rfl, rfl, rfl⟩ := H
          go_wp2
          refine bodyPost_ret (results_list (rs := [.tmp 2, .tmp 3, .tmp 4, .tmp 5]) rfl (by simp) (.tmp (.tmp (.tmp (.tmp .nil))))) rfl ?_
          exact ⟨_, by first | rfl | (simp [errW_none, errW_some] <;> rfl) | (simp [*, errW_none, errW_some] <;> rfl), by (with_reducible repeat (first | apply Kd.R_alloc | apply Kd.R_drewN | apply Kd.R_drew)); exact HO_11.out, by repeat (first | (with_reducible first | exact HB.out | apply bwA | apply bwN | apply bw1) | exact HB.out)⟩
     ·rw [if_neg c10] at H
      have c10b0 : (t152 == t150) = false := beq_eq_false_iff_ne.mpr c10
      have c10b1 : (t152 != t150) = true := bne_iff_ne.mpr c10
      simp only [Option.some.injEq, Prod.mk.injEq] at H
      obtain ⟨rfl, rfl, rfl, rfl⟩ := H
      obtain ⟨i037, hi037, _, hsz37, _⟩ := info_parts info5
      obtain ⟨hcut37, hA37, hC37⟩ := print_take_of (P := Tryz.prog) (Value.int .u8) 0 27 5 .i64 Tryz.underlying27 hi037 hsz37 A0 c0 l0 5 (by omega) (of_decide_eq_true (by first | (with_reducible assumption) | assumption)) HC0.out
      have e5 : l0.take (5 : Int).toNat = y147 := Ny147.out.symm
      rw [e5] at hcut37 hA37 hC37
      clear e5
      have HR147 := Ad.mk (Kd.C_of_reads (h1 := fun _ => rfl) (hA37 _ (Kd.reads_of_C HR0.out)))
      have HC147 := Ad.mk hC37
      clear hA37 hC37 hi037 hsz37
      have hcv38 := Kd.C_string (P := Tryz.prog) (A := A0) (c := c0) Tryz.underlying27 Tryz.underlying5 Tryz.underlying9 HR147.out
      go_enter Tryz.func28, Tryz.ntmps28
      go_wp2_with (first | ((with_reducible refine gate_callee (f := 51) rfl ?_); refine goesL_ (some 22) rfl rfl Tryz.func51 (by kernel_rfl) rfl #[.slice A0 l0.length c0, .int .i64 5, .int .i64 2] rfl (by (try simp only [List.map_toArray, List.map_cons, List.map_nil]); first | done | rfl | (simp only [List.length_drop, List.length_take]; rfl)) ?_; (with_reducible refine (r13_get.calls k _ _ l0 5 2 t148 _ ?side1 ?side2 A5.out).mono ?_); (case side1 => repeat (first | exact HR0.out | (with_reducible refine Kd.C_alloc ?_ _) | (with_reducible refine Kd.C_drewN ?_ _) | (with_reducible refine Kd.C_drew ?_))); (case side2 => exact HC0.out); rintro e w' ⟨rfl, ⟨nd, rfl⟩⟩; refine ⟨_, rfl, ?_⟩) | ((with_reducible refine gate_callee (f := 51) rfl ?_); refine goesL_ (some 25) rfl rfl Tryz.func51 (by kernel_rfl) rfl #[.slice A0 l0.length c0, .int .i64 7, .int .i64 2] rfl (by (try simp only [List.map_toArray, List.map_cons, List.map_nil]); first | done | rfl | (simp only [List.length_drop, List.length_take]; rfl)) ?_; (with_reducible refine (r13_get.calls k _ _ l0 7 2 t149 _ ?side1 ?side2 A6.out).mono ?_); (case side1 => repeat (first | exact HR0.out | (with_reducible refine Kd.C_alloc ?_ _) | (with_reducible refine Kd.C_drewN ?_ _) | (with_reducible refine Kd.C_drew ?_))); (case side2 => exact HC0.out); rintro e w' ⟨rfl, ⟨nd, rfl⟩⟩; refine ⟨_, rfl, ?_⟩) | ((with_reducible refine gate_callee (f := 52) rfl ?_); refine goesL_ (some 30) rfl rfl Tryz.func52 (by kernel_rfl) rfl #[.int .i64 (wrap64 (t148 + 1)), .int .i64 (wrap64 (t149 + 1))] rfl (by (try simp only [List.map_toArray, List.map_cons, List.map_nil]); first | done | rfl | (simp only [List.length_drop, List.length_take]; rfl)) ?_; (with_reducible refine (r13_Tiles.calls k (wrap64 (t148 + 1)) (wrap64 (t149 + 1)) t150 t151 _ A7.out).mono ?_); rintro e w39 ⟨rfl, hb⟩; refine ⟨_, rfl, ?_⟩; have n0_ := Ad.mk (below_step (by repeat (first | (with_reducible first | exact HB.out | apply bwA | apply bwN | apply bw1) | exact HB.out)) hb); clear HB; have HB := n0_; clear n0_; (try clear hb); (try clear hb2); (try clear hk); (try clear hi)) | ((with_reducible refine gate_callee (f := 51) rfl ?_); refine goesL_ (some 37) rfl rfl Tryz.func51 (by kernel_rfl) rfl #[.slice A0 l0.length c0, .int .i64 9, .int .i64 4] rfl (by (try simp only [List.map_toArray, List.map_cons, List.map_nil]); first | done | rfl | (simp only [List.length_drop, List.length_take]; rfl)) ?_; (with_reducible refine (r13_get.calls k _ _ l0 9 4 t152 _ ?side1 ?side2 A9.out).mono ?_); (case side1 => repeat (first | exact (Kd.C_below HR0.out HB.out) | (with_reducible refine Kd.C_alloc ?_ _) | (with_reducible refine Kd.C_drewN ?_ _) | (with_reducible refine Kd.C_drew ?_))); (case side2 => exact HC0.out); rintro e w' ⟨rfl, ⟨nd, rfl⟩⟩; refine ⟨_, rfl, ?_⟩))
      refine bodyPost_ret (results_list (rs := [.tmp 2, .tmp 3, .tmp 4, .tmp 5]) rfl (by simp) (.tmp (.tmp (.tmp (.tmp .nil))))) rfl ?_
      exact ⟨_, by first | rfl | (simp [errW_none, errW_some] <;> rfl) | (simp [*, errW_none, errW_some] <;> rfl), by first | exact Kd.R_nil _ _ _ _ _ | exact Kd.N_nil _ _ _ _ _ | exact Kd.V_nil _ _ _ _ _ | exact Kd.Q_nil _ _ _ _ _ | exact Kd.S_nil _ _ _ _ _, by repeat (first | (with_reducible first | exact HB.out | apply bwA | apply bwN | apply bw1) | exact HB.out)⟩
    ·rw [if_neg c8] at H
     have c8b0 : (t151 == 0) = false := beq_eq_false_iff_ne.mpr c8
     have c8b1 : (t151 != 0) = true := bne_iff_ne.mpr c8
     simp only [Option.some.injEq, Prod.mk.injEq] at H
     obtain ⟨rfl, rfl, rfl, rfl⟩ := H
     obtain ⟨i040, hi040, _, hsz40, _⟩ := info_parts info5
     obtain ⟨hcut40, hA40, hC40⟩ := print_take_of (P := Tryz.prog) (Value.int .u8) 0 27 5 .i64 Tryz.underlying27 hi040 hsz40 A0 c0 l0 5 (by omega) (of_decide_eq_true (by first | (with_reducible assumption) | assumption)) HC0.out
     have e5 : l0.take (5 : Int).toNat = y147 := Ny147.out.symm
     rw [e5] at hcut40 hA40 hC40
     clear e5
     have HR147 := Ad.mk (Kd.C_of_reads (h1 := fun _ => rfl) (hA40 _ (Kd.reads_of_C HR0.out)))
     have HC147 := Ad.mk hC40
     clear hA40 hC40 hi040 hsz40
     have hcv41 := Kd.C_string (P := Tryz.prog) (A := A0) (c := c0) Tryz.underlying27 Tryz.underlying5 Tryz.underlying9 HR147.out
     go_enter Tryz.func28, Tryz.ntmps28
     go_wp2_with (first | ((with_reducible refine gate_callee (f := 51) rfl ?_); refine goesL_ (some 22) rfl rfl Tryz.func51 (by kernel_rfl) rfl #[.slice A0 l0.length c0, .int .i64 5, .int .i64 2] rfl (by (try simp only [List.map_toArray, List.map_cons, List.map_nil]); first | done | rfl | (simp only [List.length_drop, List.length_take]; rfl)) ?_; (with_reducible refine (r13_get.calls k _ _ l0 5 2 t148 _ ?side1 ?side2 A5.out).mono ?_); (case side1 => repeat (first | exact HR0.out | (with_reducible refine Kd.C_alloc ?_ _) | (with_reducible refine Kd.C_drewN ?_ _) | (with_reducible refine Kd.C_drew ?_))); (case side2 => exact HC0.out); rintro e w' ⟨rfl, ⟨nd, rfl⟩⟩; refine ⟨_, rfl, ?_⟩) | ((with_reducible refine gate_callee (f := 51) rfl ?_); refine goesL_ (some 25) rfl rfl Tryz.func51 (by kernel_rfl) rfl #[.slice A0 l0.length c0, .int .i64 7, .int .i64 2] rfl (by (try simp only [List.map_toArray, List.map_cons, List.map_nil]); first | done | rfl | (simp only [List.length_drop, List.length_take]; rfl)) ?_; (with_reducible refine (r13_get.calls k _ _ l0 7 2 t149 _ ?side1 ?side2 A6.out).mono ?_); (case side1 => repeat (first | exact HR0.out | (with_reducible refine Kd.C_alloc ?_ _) | (with_reducible refine Kd.C_drewN ?_ _) | (with_reducible refine Kd.C_drew ?_))); (case side2 => exact HC0.out); rintro e w' ⟨rfl, ⟨nd, rfl⟩⟩; refine ⟨_, rfl, ?_⟩) | ((with_reducible refine gate_callee (f := 52) rfl ?_); refine goesL_ (some 30) rfl rfl Tryz.func52 (by kernel_rfl) rfl #[.int .i64 (wrap64 (t148 + 1)), .int .i64 (wrap64 (t149 + 1))] rfl (by (try simp only [List.map_toArray, List.map_cons, List.map_nil]); first | done | rfl | (simp only [List.length_drop, List.length_take]; rfl)) ?_; (with_reducible refine (r13_Tiles.calls k (wrap64 (t148 + 1)) (wrap64 (t149 + 1)) t150 t151 _ A7.out).mono ?_); rintro e w42 ⟨rfl, hb⟩; refine ⟨_, rfl, ?_⟩; have n0_ := Ad.mk (below_step (by repeat (first | (with_reducible first | exact HB.out | apply bwA | apply bwN | apply bw1) | exact HB.out)) hb); clear HB; have HB := n0_; clear n0_; (try clear hb); (try clear hb2); (try clear hk); (try clear hi)))
     refine bodyPost_ret (results_list (rs := [.tmp 2, .tmp 3, .tmp 4, .tmp 5]) rfl (by simp) (.tmp (.tmp (.tmp (.tmp .nil))))) rfl ?_
     exact ⟨_, by first | rfl | (simp [errW_none, errW_some] <;> rfl) | (simp [*, errW_none, errW_some] <;> rfl), by first | exact Kd.R_nil _ _ _ _ _ | exact Kd.N_nil _ _ _ _ _ | exact Kd.V_nil _ _ _ _ _ | exact Kd.Q_nil _ _ _ _ _ | exact Kd.S_nil _ _ _ _ _, by repeat (first | (with_reducible first | exact HB.out | apply bwA | apply bwN | apply bw1) | exact HB.out)⟩
   ·rw [if_neg c4] at H
    have c4b0 : ((strOfNums y147).toList == ([72, 65, 67, 72, 1] : List UInt8)) = false := beq_eq_false_iff_ne.mpr c4
    have c4b1 : ((strOfNums y147).toList != ([72, 65, 67, 72, 1] : List UInt8)) = true := bne_iff_ne.mpr c4
    simp only [Option.some.injEq, Prod.mk.injEq] at H
    obtain ⟨rfl, rfl, rfl, rfl⟩ := H
    obtain ⟨i043, hi043, _, hsz43, _⟩ := info_parts info5
    obtain ⟨hcut43, hA43, hC43⟩ := print_take_of (P := Tryz.prog) (Value.int .u8) 0 27 5 .i64 Tryz.underlying27 hi043 hsz43 A0 c0 l0 5 (by omega) (of_decide_eq_true (by first | (with_reducible assumption) | assumption)) HC0.out
    have e5 : l0.take (5 : Int).toNat = y147 := Ny147.out.symm
    rw [e5] at hcut43 hA43 hC43
    clear e5
    have HR147 := Ad.mk (Kd.C_of_reads (h1 := fun _ => rfl) (hA43 _ (Kd.reads_of_C HR0.out)))
    have HC147 := Ad.mk hC43
    clear hA43 hC43 hi043 hsz43
    have hcv44 := Kd.C_string (P := Tryz.prog) (A := A0) (c := c0) Tryz.underlying27 Tryz.underlying5 Tryz.underlying9 HR147.out
    go_enter Tryz.func28, Tryz.ntmps28
    go_wp2
    refine bodyPost_ret (results_list (rs := [.tmp 2, .tmp 3, .tmp 4, .tmp 5]) rfl (by simp) (.tmp (.tmp (.tmp (.tmp .nil))))) rfl ?_
    exact ⟨_, by first | rfl | (simp [errW_none, errW_some] <;> rfl) | (simp [*, errW_none, errW_some] <;> rfl), by first | exact Kd.R_nil _ _ _ _ _ | exact Kd.N_nil _ _ _ _ _ | exact Kd.V_nil _ _ _ _ _ | exact Kd.Q_nil _ _ _ _ _ | exact Kd.S_nil _ _ _ _ _, by repeat (first | (with_reducible first | exact HB.out | apply bwA | apply bwN | apply bw1) | exact HB.out)⟩
  ·rw [if_neg c3] at H
   exact absurd H (by simp)
def r04_May.f (a0 : Int) : Option (Bool) := if a0 ≥ (-2147483648) then (some (decide (a0 ≤ 2147483647))) else (some false)
set_option maxHeartbeats 8000000 in
set_option maxRecDepth 100000 in
theorem r04_May.calls (a0 : Int) (r : Bool) (w : World) (h : r04_May.f a0 = some r) :
  Calls Tryz.prog 61 #[.int .i64 a0] w fun e w' => e = .returned (.bool r) ∧ Drawn0 w w' := by
 have H : (if a0 ≥ (-2147483648) then (some (decide (a0 ≤ 2147483647))) else (some false)) = some r := h
 clear h
 by_cases c2 : a0 ≥ (-2147483648)
 ·rw [if_pos c2] at H
  have c2b0 : decide ((-2147483648) ≤ a0) = true := decide_eq_true c2
  clear c2
  obtain rfl := Option.some.inj H
  go_enter Tryz.func61, Tryz.ntmps61
  go_wp2
  go_ret
  exact ⟨by first | rfl | (simp; done) | (simp [*]; done), by repeat (first | exact Drawn0.refl _ | apply Drawn0.step)⟩
 ·rw [if_neg c2] at H
  have c2b0 : decide ((-2147483648) ≤ a0) = false := decide_eq_false c2
  clear c2
  obtain rfl := Option.some.inj H
  go_enter Tryz.func61, Tryz.ntmps61
  go_wp2
  go_ret
  exact ⟨by first | rfl | (simp; done) | (simp [*]; done), by repeat (first | exact Drawn0.refl _ | apply Drawn0.step)⟩
mutual
def r08_New.j0 : Nat → Int → Int → Int → Bool → Option (Int × Int × List Int × Int)
 | 0, _, _, _, _ => none
 | k + 1, x0, x1, x2, x27 => if x27 = true then (some (0, 0, ([] : List Int), 3)) else ((r04_May.f x2).bind fun t163 => (if t163 = true then (r08_New.l0 k x0 x1 x2 0 x0 x1 ([] : List Int)) else (some (0, 0, ([] : List Int), 7))))
def r08_New.l0 : Nat → Int → Int → Int → Int → Int → Int → List Int → Option (Int × Int × List Int × Int)
 | 0, _, _, _, _, _, _, _ => none
 | k + 1, x0, x1, x2, x11, x165000, x165001, x165002 => if x11 < (wrap64 (x0 * x1)) then (if x165002.length < 17592186044416 then (r08_New.l0 k x0 x1 x2 (wrap64 (x11 + 1)) x165000 x165001 (x165002 ++ [x2])) else (none)) else (some (x165000, x165001, x165002, 0))
end
def r08_New.f (k : Nat) (a0 : Int) (a1 : Int) (a2 : Int) (a3 : Int) : Option (Int × Int × List Int × Int) := if a0 < 1 then (r08_New.j0 k a0 a1 a2 true) else (if a0 > a3 then (r08_New.j0 k a0 a1 a2 true) else (if a1 < 1 then (r08_New.j0 k a0 a1 a2 true) else (r08_New.j0 k a0 a1 a2 (decide (a1 > a3)))))
set_option maxHeartbeats 8000000 in
set_option maxRecDepth 100000 in
theorem r08_New.calls (k : Nat) (a0 : Int) (a1 : Int) (a2 : Int) (a3 : Int) (r1 : Int) (r2 : Int) (r3 : List Int) (r4 : Int) (w : World) (h : r08_New.f k a0 a1 a2 a3 = some (r1, r2, r3, r4)) :
  Calls Tryz.prog 53 #[.int .i64 a0, .int .i64 a1, .int .i64 a2, .int .i64 a3] w fun e w' => ∃ v2_ : Value, e = .returned (.tuple #[.agg #[.int .i64 r1, .int .i64 r2, v2_], .int .i64 r4]) ∧ Kd.R (Kd.int .i64) 2 w' w.heap.size (fun _ => True) v2_ r3 ∧ Below w.heap.size w w' := by
 have hu53 := Tryz.underlying53
 have HB := Ad.mk (Below.refl w.heap.size w)
 have H : (if a0 < 1 then (r08_New.j0 k a0 a1 a2 true) else (if a0 > a3 then (r08_New.j0 k a0 a1 a2 true) else (if a1 < 1 then (r08_New.j0 k a0 a1 a2 true) else (r08_New.j0 k a0 a1 a2 (decide (a1 > a3)))))) = some (r1, r2, r3, r4) := h
 clear h
 have HC5 := Ad.mk H
 clear H
 go_enter Tryz.func53, Tryz.ntmps53
 go_upto_region 1 with (first | ((with_reducible refine gate_dst (N := 8) rfl ?_); refine box_event ?hg (N := 8) ?hd (cs := #[.int .i64 0, .int .i64 0, .slice none 0 0]) (t := 53) ?hr ?_; (case hd => rfl); (case hg => rfl); (case hr => first | (go_simp; done) | (go_simp; rfl)); intro gb162 hg w6 hbox hb; have n0_ := Ad.mk (below_step (by repeat (first | (with_reducible first | exact HB.out | apply bwA | apply bwN | apply bw1) | exact HB.out)) hb); have n1_ := Ad.mk (hbox); have n2_ := Ad.mk ((by rw [hg]; exact (below_size (by repeat (first | (with_reducible first | exact HB.out | apply bwA | apply bwN | apply bw1) | exact HB.out))) : w.heap.size ≤ gb162)); have n3_ := Ad.mk ((by rw [hg]; exact (below_size (by repeat (first | (with_reducible first | exact HB.out | apply bwA | apply bwN | apply bw1) | exact HB.out))) : w.heap.size ≤ gb162)); clear HB; have HB := n0_; have BK162 := n1_; have GW162 := n2_; have GE162 := n3_; clear n0_ n1_ n2_ n3_; clear hb hbox hg))
 (try simp only [Act.put, List.setIfInBounds_toArray, List.set_cons_zero, List.set_cons_succ])
 go_cut [27] (fun v27 wc => ∃ (kq : Nat) (x27_4 : Bool), v27 = .bool x27_4 ∧ Ad (r08_New.j0 kq a0 a1 a2 x27_4 = some (r1, r2, r3, r4)) ∧ Ad (kq ≤ k) ∧ Ad (wc.heap[gb162]? = some (.cells #[.int .i64 0, .int .i64 0, (.slice none 0 0)] 53 (0, 0))) ∧ Ad (Below w.heap.size w wc))
 case first =>
  have H := HC5.out
  clear HC5
  by_cases c7 : a0 < 1
  ·rw [if_pos c7] at H
   have c7b0 : decide (a0 < 1) = true := decide_eq_true c7
   clear c7
   (first | rw [c7b0] | (simp only [i64_w]; rw [c7b0]) | skip)
   have H' := Ad.mk H
   clear H
   go_wp2
   go_meet
   case rel => exact ⟨_, (true), (by first | rfl | (simp; done) | (simp [*]; done)), H', ⟨by first | omega | exact Nat.le_refl _⟩, ⟨by (with_reducible repeat (first | refine bkN ?_ _ | refine bkD ?_ | refine bkA ?_ _)); exact BK162.out⟩, ⟨by repeat (first | (with_reducible first | exact HB.out | apply bwA | apply bwN | apply bw1 | refine bwS ?_ GE162.out) | exact HB.out)⟩⟩
  ·rw [if_neg c7] at H
   have c7b0 : decide (a0 < 1) = false := decide_eq_false c7
   clear c7
   (first | rw [c7b0] | (simp only [i64_w]; rw [c7b0]) | skip)
   by_cases c8 : a0 > a3
   ·rw [if_pos c8] at H
    have c8b0 : decide (a3 < a0) = true := decide_eq_true c8
    clear c8
    have H' := Ad.mk H
    clear H
    go_wp2
    go_meet
    case rel => exact ⟨_, (true), (by first | rfl | (simp; done) | (simp [*]; done)), H', ⟨by first | omega | exact Nat.le_refl _⟩, ⟨by (with_reducible repeat (first | refine bkN ?_ _ | refine bkD ?_ | refine bkA ?_ _)); exact BK162.out⟩, ⟨by repeat (first | (with_reducible first | exact HB.out | apply bwA | apply bwN | apply bw1 | refine bwS ?_ GE162.out) | exact HB.out)⟩⟩
   ·rw [if_neg c8] at H
    have c8b0 : decide (a3 < a0) = false := decide_eq_false c8
    clear c8
    by_cases c9 : a1 < 1
    ·rw [if_pos c9] at H
     have c9b0 : decide (a1 < 1) = true := decide_eq_true c9
     clear c9
     have H' := Ad.mk H
     clear H
     go_wp2
     go_meet
     case rel => exact ⟨_, (true), (by first | rfl | (simp; done) | (simp [*]; done)), H', ⟨by first | omega | exact Nat.le_refl _⟩, ⟨by (with_reducible repeat (first | refine bkN ?_ _ | refine bkD ?_ | refine bkA ?_ _)); exact BK162.out⟩, ⟨by repeat (first | (with_reducible first | exact HB.out | apply bwA | apply bwN | apply bw1 | refine bwS ?_ GE162.out) | exact HB.out)⟩⟩
    ·rw [if_neg c9] at H
     have c9b0 : decide (a1 < 1) = false := decide_eq_false c9
     clear c9
     have H' := Ad.mk H
     clear H
     go_wp2
     go_meet
     case rel => exact ⟨_, (decide (a1 > a3)), (by first | rfl | (simp; done) | (simp [*]; done)), H', ⟨by first | omega | exact Nat.le_refl _⟩, ⟨by (with_reducible repeat (first | refine bkN ?_ _ | refine bkD ?_ | refine bkA ?_ _)); exact BK162.out⟩, ⟨by repeat (first | (with_reducible first | exact HB.out | apply bwA | apply bwN | apply bw1 | refine bwS ?_ GE162.out) | exact HB.out)⟩⟩
 case rest =>
  clear HC5
  try clear p2
  try clear c5
  try clear c7
  try clear c7b0
  try clear c8
  try clear c8b0
  try clear c9
  try clear c9b0
  obtain ⟨kq, x27_4, rfl, HA, HJ4, BK162, HB⟩ := hcut
  cases kq with
  | zero => exact absurd HA.out (by simp [r08_New.j0])
  | succ kj4 =>
   have H := HA.out
   clear HA
   simp only [r08_New.j0] at H
   by_cases c10 : x27_4 = true
   ·subst c10
    have H1 : (some (0, 0, ([] : List Int), 3)) = some (r1, r2, r3, r4) := by rw [if_pos rfl] at H; exact H
    clear H
    have H := H1
    clear H1
    simp only [Option.some.injEq, Prod.mk.injEq] at H
    obtain ⟨rfl, rfl, rfl, rfl⟩ := H
    have hcz11_0 : wc.cell? ⟨gb162, 0, none⟩ = some (.int .i64 0) := (bkC BK162.out 0).trans rfl
    have hcz11_1 : wc.cell? ⟨gb162, 1, none⟩ = some (.int .i64 0) := (bkC BK162.out 1).trans rfl
    have hcz11_2 : wc.cell? ⟨gb162, 2, none⟩ = some (.slice none 0 0) := (bkC BK162.out 2).trans rfl
    have hfz11_0 := bkF BK162.out 0
    have hfz11_1 := bkF BK162.out 1
    have hfz11_2 := bkF BK162.out 2
    go_wp2
    refine bodyPost_ret (results_ct rfl _ _ gb162 53 #[.int .i64 0, .int .i64 0, .slice none 0 0] (0, 0) _ rfl (by (with_reducible repeat (first | refine bkN ?_ _ | refine bkD ?_ | refine bkA ?_ _)); refine blk_put (cs := #[.int .i64 0, .int .i64 0, .slice none 0 0]) ?_ 2 _ rfl; (with_reducible repeat (first | refine bkN ?_ _ | refine bkD ?_ | refine bkA ?_ _)); refine blk_put (cs := #[.int .i64 0, .int .i64 0, .slice none 0 0]) ?_ 1 _ rfl; (with_reducible repeat (first | refine bkN ?_ _ | refine bkD ?_ | refine bkA ?_ _)); refine blk_put (cs := #[.int .i64 0, .int .i64 0, .slice none 0 0]) ?_ 0 _ rfl; (with_reducible repeat (first | refine bkN ?_ _ | refine bkD ?_ | refine bkA ?_ _)); exact BK162.out) Tryz.underlying53 rfl (by kernel_rfl)) rfl ?_
    exact ⟨_, by first | rfl | (simp [errW_none, errW_some] <;> rfl) | (simp [*, errW_none, errW_some] <;> rfl), by first | exact Kd.R_nil _ _ _ _ _ | exact Kd.N_nil _ _ _ _ _ | exact Kd.V_nil _ _ _ _ _ | exact Kd.Q_nil _ _ _ _ _ | exact Kd.S_nil _ _ _ _ _, by repeat (first | (with_reducible first | exact HB.out | apply bwA | apply bwN | apply bw1 | refine bwS ?_ GE162.out) | exact HB.out)⟩
   ·replace c10 := Bool.eq_false_iff.mpr c10
    subst c10
    have H1 : ((r04_May.f a2).bind fun t163 => (if t163 = true then (r08_New.l0 kj4 a0 a1 a2 0 a0 a1 ([] : List Int)) else (some (0, 0, ([] : List Int), 7)))) = some (r1, r2, r3, r4) := by rw [if_neg (show ¬ (false = true) by decide)] at H; exact H
    clear H
    have H := H1
    clear H1
    replace H := Option.bind_eq_some_iff.mp H
    obtain ⟨t163, A120, H⟩ := H
    replace H : (if t163 = true then (r08_New.l0 kj4 a0 a1 a2 0 a0 a1 ([] : List Int)) else (some (0, 0, ([] : List Int), 7))) = some (r1, r2, r3, r4) := H
    have A12 := Ad.mk A120
    clear A120
    by_cases c13 : t163 = true
    ·subst c13
     have H1 : (r08_New.l0 kj4 a0 a1 a2 0 a0 a1 ([] : List Int)) = some (r1, r2, r3, r4) := by rw [if_pos rfl] at H; exact H
     clear H
     have H := H1
     clear H1
     have H' := Ad.mk H
     clear H
     go_wp2_with (first | ((with_reducible refine gate_callee (f := 61) rfl ?_); refine goesL_ (some 30) rfl rfl Tryz.func61 (by kernel_rfl) rfl #[.int .i64 a2] rfl (by (try simp only [List.map_toArray, List.map_cons, List.map_nil]); first | done | rfl | (simp only [List.length_drop, List.length_take]; rfl)) ?_; (with_reducible refine (r04_May.calls a2 true _ A12.out).mono ?_); rintro e w' ⟨rfl, ⟨nd, rfl⟩⟩; refine ⟨_, rfl, ?_⟩; (try (rw [drewN_self wc]; generalize hq_ : World.drewN wc _ = wc; have n0_ : Ad (wc.heap[gb162]? = some (.cells #[.int .i64 0, .int .i64 0, .slice none 0 0] 53 (0, 0))) := ⟨by rw [← hq_]; exact (by (with_reducible repeat (first | refine bkN ?_ _ | refine bkD ?_ | refine bkA ?_ _)); exact BK162.out)⟩; have n1_ : Ad (Below w.heap.size w wc) := ⟨by rw [← hq_]; exact (by repeat (first | (with_reducible first | exact HB.out | apply bwA | apply bwN | apply bw1 | refine bwS ?_ GE162.out) | exact HB.out))⟩; clear BK162 HB hq_; have BK162 := n0_; have HB := n1_; clear n0_ n1_))) | ((with_reducible refine gate_dst (N := 10) rfl ?_); refine box_event ?hg (N := 10) ?hd (cs := #[.int .i64 0, .int .i64 0, .slice none 0 0]) (t := 53) ?hr ?_; (case hd => rfl); (case hg => rfl); (case hr => first | (go_simp; done) | (go_simp; rfl)); intro gb164 hg w14 hbox hb; have n0_ := Ad.mk (blk_below (g := gb162) (o := .cells #[.int .i64 0, .int .i64 0, .slice none 0 0] 53 (0, 0)) (by (with_reducible repeat (first | refine bkN ?_ _ | refine bkD ?_ | refine bkA ?_ _)); exact BK162.out) hb); have n1_ := Ad.mk (below_step (by repeat (first | (with_reducible first | exact HB.out | apply bwA | apply bwN | apply bw1 | refine bwS ?_ GE162.out) | exact HB.out)) hb); have n2_ := Ad.mk (hbox); have n3_ := Ad.mk ((by rw [hg]; exact (below_size (by repeat (first | (with_reducible first | exact HB.out | apply bwA | apply bwN | apply bw1 | refine bwS ?_ GE162.out) | exact HB.out))) : w.heap.size ≤ gb164)); have n4_ := Ad.mk ((by rw [hg]; exact (below_size (by repeat (first | (with_reducible first | exact HB.out | apply bwA | apply bwN | apply bw1 | refine bwS ?_ GE162.out) | exact HB.out))) : w.heap.size ≤ gb164)); have n5_ := Ad.mk ((by rw [hg]; exact Nat.ne_of_lt (blk_lt (g := gb162) (o := .cells #[.int .i64 0, .int .i64 0, .slice none 0 0] 53 (0, 0)) (by (with_reducible repeat (first | refine bkN ?_ _ | refine bkD ?_ | refine bkA ?_ _)); exact BK162.out)) : gb162 ≠ gb164)); have n6_ := Ad.mk ((by rw [hg]; exact Nat.ne_of_gt (blk_lt (g := gb162) (o := .cells #[.int .i64 0, .int .i64 0, .slice none 0 0] 53 (0, 0)) (by (with_reducible repeat (first | refine bkN ?_ _ | refine bkD ?_ | refine bkA ?_ _)); exact BK162.out)) : gb164 ≠ gb162)); clear BK162; clear HB; have BK162 := n0_; have HB := n1_; have BK164 := n2_; have GW164 := n3_; have GE164 := n4_; have NB162_164 := n5_; have NB164_162 := n6_; clear n0_ n1_ n2_ n3_ n4_ n5_ n6_; clear hb hbox hg; have hnb15 := NB164_162.out; have hnc15 := NB162_164.out; have hcz16_0 : w14.cell? ⟨gb164, 0, none⟩ = some (.int .i64 0) := (bkC BK164.out 0).trans rfl; have hcz16_1 : w14.cell? ⟨gb164, 1, none⟩ = some (.int .i64 0) := (bkC BK164.out 1).trans rfl; have hcz16_2 : w14.cell? ⟨gb164, 2, none⟩ = some (.slice none 0 0) := (bkC BK164.out 2).trans rfl; have hfz16_0 := bkF BK164.out 0; have hfz16_1 := bkF BK164.out 1; have hfz16_2 := bkF BK164.out 2))
     go_loopg [11] kj4 (fun kq v11 w' => ∃ (x11_2 : Int) (x165002_2 : List Int) (u165002 : Value), v11 = .int .i64 x11_2 ∧ Ad (r08_New.l0 kq a0 a1 a2 x11_2 a0 a1 x165002_2 = some (r1, r2, r3, r4)) ∧ Ad (kq ≤ kj4) ∧ Ad (Kd.R (Kd.int .i64) 2 w' w.heap.size (fun _ => True) u165002 x165002_2) ∧ Ad (w'.heap[gb162]? = some (.cells #[.int .i64 0, .int .i64 0, (.slice none 0 0)] 53 (0, 0))) ∧ Ad (w'.heap[gb164]? = some (.cells #[.int .i64 a0, .int .i64 a1, u165002] 53 (0, 0))) ∧ Ad (Below w.heap.size w w'))
     case atStart => exact ⟨(0), (([] : List Int)), (.slice none 0 0), (by first | rfl | (simp; done) | (simp [*]; done)), H', ⟨Nat.le_refl _⟩, ⟨by first | exact Kd.R_nil _ _ _ _ _ | exact Kd.N_nil _ _ _ _ _ | exact Kd.V_nil _ _ _ _ _ | exact Kd.Q_nil _ _ _ _ _ | exact Kd.S_nil _ _ _ _ _⟩, ⟨by (with_reducible repeat (first | refine bkN ?_ _ | refine bkD ?_ | refine bkA ?_ _)); refine blk_far ?_ NB162_164.out _; (with_reducible repeat (first | refine bkN ?_ _ | refine bkD ?_ | refine bkA ?_ _)); refine blk_far ?_ NB162_164.out _; (with_reducible repeat (first | refine bkN ?_ _ | refine bkD ?_ | refine bkA ?_ _)); refine blk_far ?_ NB162_164.out _; (with_reducible repeat (first | refine bkN ?_ _ | refine bkD ?_ | refine bkA ?_ _)); exact BK162.out⟩, ⟨by (with_reducible repeat (first | refine bkN ?_ _ | refine bkD ?_ | refine bkA ?_ _)); refine blk_put (cs := #[.int .i64 a0, .int .i64 a1, .slice none 0 0]) ?_ 2 _ rfl; (with_reducible repeat (first | refine bkN ?_ _ | refine bkD ?_ | refine bkA ?_ _)); refine blk_put (cs := #[.int .i64 a0, .int .i64 0, .slice none 0 0]) ?_ 1 _ rfl; (with_reducible repeat (first | refine bkN ?_ _ | refine bkD ?_ | refine bkA ?_ _)); refine blk_put (cs := #[.int .i64 0, .int .i64 0, .slice none 0 0]) ?_ 0 _ rfl; (with_reducible repeat (first | refine bkN ?_ _ | refine bkD ?_ | refine bkA ?_ _)); exact BK164.out⟩, ⟨by repeat (first | (with_reducible first | exact HB.out | apply bwA | apply bwN | apply bw1 | refine bwS ?_ GE162.out | refine bwS ?_ GE164.out) | exact HB.out)⟩⟩
     case round =>
      clear H'
      try clear c1
      try clear p2
      try clear c5
      try clear c6
      try clear c7
      try clear c7b0
      try clear c8
      try clear c8b0
      try clear c9
      try clear c9b0
      try clear c10
      try clear c13
      try clear c15
      try clear hcz11_0
      try clear hcz11_1
      try clear hcz11_2
      try clear hcz16_0
      try clear hcz16_1
      try clear hcz16_2
      try clear hfz11_0
      try clear hfz11_1
      try clear hfz11_2
      try clear hfz16_0
      try clear hfz16_1
      try clear hfz16_2
      try clear p2
      obtain ⟨x11_2, x165002_2, u165002, rfl, HA, HK2, HO_165002, BK162, BK164, HB⟩ := hrel
      cases gk with
      | zero => exact absurd HA.out (by simp [r08_New.l0])
      | succ k2 =>
       have H := HA.out
       clear HA
       simp only [r08_New.l0] at H
       by_cases c17 : x11_2 < (wrap64 (a0 * a1))
       ·rw [if_pos c17] at H
        have c17b0 : decide (x11_2 < (wrap64 (a0 * a1))) = true := decide_eq_true c17
        clear c17
        by_cases c18 : x165002_2.length < 17592186044416
        ·rw [if_pos c18] at H
         have LMc18 := Ad.mk c18
         clear c18
         obtain ⟨y165, hy165⟩ : ∃ y_ : List Int, y_ = (x165002_2 ++ [a2]) := ⟨_, rfl⟩
         replace H : (r08_New.l0 k2 a0 a1 a2 (wrap64 (x11_2 + 1)) a0 a1 y165) = some (r1, r2, r3, r4) := by first | (rw [hy165]; with_reducible exact H) | (have H2_ := (Option.bind_some _ _).symm.trans H; rw [hy165]; with_reducible exact H2_) | (have H2_ := (Option.bind_some _ _).symm.trans H; with_reducible exact H2_) | with_reducible exact H | (rw [hy165]; exact H) | exact H
         have Ny165 := Ad.mk hy165
         clear hy165
         have H' := Ad.mk H
         clear H
         have hnb19 := NB164_162.out
         have hnc19 := NB162_164.out
         have hcz20_0 : wr.cell? ⟨gb164, 0, none⟩ = some (.int .i64 a0) := (bkC BK164.out 0).trans rfl
         have hcz20_1 : wr.cell? ⟨gb164, 1, none⟩ = some (.int .i64 a1) := (bkC BK164.out 1).trans rfl
         have hcz20_2 : wr.cell? ⟨gb164, 2, none⟩ = some (u165002) := (bkC BK164.out 2).trans rfl
         have hfz20_0 := bkF BK164.out 0
         have hfz20_1 := bkF BK164.out 1
         have hfz20_2 := bkF BK164.out 2
         go_wp2_with (first | ((with_reducible refine gate_builtin (b := .append) (xs := #[.tmp 44, .tmp 46]) rfl ?_); at_builtin; refine Kd.R_append (Kd.int .i64) (w0 := w) w.heap.size rfl (.tmp 44) (.tmp 46) 26 2 (.int .i64 0) 8 rfl Tryz.underlying26 info2 rfl (by decide) (by omega) u165002 x165002_2 a2 [.int .i64 a2] (fun _ => True) (fun _ => False) rfl rfl ?aP (fun _ hk => hk.elim) ?aF ?aO ?aB ?aS ?aL ?_; (case aP => exact rfl); (case aB => exact (by repeat (first | (with_reducible first | exact HB.out | apply bwA | apply bwN | apply bw1 | refine bwS ?_ GE162.out | refine bwS ?_ GE164.out) | exact HB.out))); (case aF => exact (fun _ _ => trivial)); (case aO => exact (by (with_reducible repeat (first | apply Kd.R_alloc | apply Kd.R_drewN | apply Kd.R_drew)); exact HO_165002.out)); (case aS => exact (below_size (by repeat (first | (with_reducible first | exact HB.out | apply bwA | apply bwN | apply bw1 | refine bwS ?_ GE162.out | refine bwS ?_ GE164.out) | exact HB.out)))); (case aL => have := LMc18.out; omega); intro v166 w21 ho hb hg hat; rw [← Ny165.out] at ho; have n0_ := Ad.mk (blk_grown (g := gb162) (o := .cells #[.int .i64 0, .int .i64 0, .slice none 0 0] 53 (0, 0)) (by (with_reducible repeat (first | refine bkN ?_ _ | refine bkD ?_ | refine bkA ?_ _)); exact BK162.out) hg (Kd.R_ne HO_165002.out BK162.out (by decide))); have n1_ := Ad.mk (blk_grown (g := gb164) (o := .cells #[.int .i64 a0, .int .i64 a1, u165002] 53 (0, 0)) (by (with_reducible repeat (first | refine bkN ?_ _ | refine bkD ?_ | refine bkA ?_ _)); exact BK164.out) hg (Kd.R_ne HO_165002.out BK164.out (by decide))); have n2_ := Ad.mk (hb); have n3_ := Ad.mk (ho); clear BK162; clear BK164; clear HB; clear HO_165002; have BK162 := n0_; have BK164 := n1_; have HB := n2_; have HO167 := n3_; clear n0_ n1_ n2_ n3_; clear ho hb hg hat; obtain ⟨Ao22, co22, eo22⟩ := Kd.R_slice HO167.out; subst eo22; have hcz23_0 : w21.cell? ⟨gb164, 0, none⟩ = some (.int .i64 a0) := (bkC BK164.out 0).trans rfl; have hcz23_1 : w21.cell? ⟨gb164, 1, none⟩ = some (.int .i64 a1) := (bkC BK164.out 1).trans rfl; have hcz23_2 : w21.cell? ⟨gb164, 2, none⟩ = some (u165002) := (bkC BK164.out 2).trans rfl; have hfz23_0 := bkF BK164.out 0; have hfz23_1 := bkF BK164.out 1; have hfz23_2 := bkF BK164.out 2))
         go_roundg k2
         case measure => have := HJ4.out; have := HK2.out; omega
         case rel => exact ⟨(wrap64 (x11_2 + 1)), (y165), (.slice Ao22 y165.length co22), (by first | rfl | (simp; done) | (simp [*]; done)), H', ⟨by have := HJ4.out; have := HK2.out; omega⟩, ⟨by (with_reducible repeat (first | apply Kd.R_alloc | apply Kd.R_drewN | apply Kd.R_drew)); exact Kd.R_mono (Kd.R_far (p := ⟨gb164, 2, none⟩) (Kd.R_types HO167.out BK164.out (by decide)) (fun _ hk => hk.2) (.slice Ao22 y165.length co22)) (fun _ hk => trivial)⟩, ⟨by (with_reducible repeat (first | refine bkN ?_ _ | refine bkD ?_ | refine bkA ?_ _)); refine blk_far ?_ NB162_164.out _; (with_reducible repeat (first | refine bkN ?_ _ | refine bkD ?_ | refine bkA ?_ _)); exact BK162.out⟩, ⟨by (with_reducible repeat (first | refine bkN ?_ _ | refine bkD ?_ | refine bkA ?_ _)); refine blk_put (cs := #[.int .i64 a0, .int .i64 a1, u165002]) ?_ 2 _ rfl; (with_reducible repeat (first | refine bkN ?_ _ | refine bkD ?_ | refine bkA ?_ _)); exact BK164.out⟩, ⟨by repeat (first | (with_reducible first | exact HB.out | apply bwA | apply bwN | apply bw1 | refine bwS ?_ GE162.out | refine bwS ?_ GE164.out) | exact HB.out)⟩⟩
        ·rw [if_neg c18] at H
         exact absurd H (by simp)
       ·rw [if_neg c17] at H
        have c17b0 : decide (x11_2 < (wrap64 (a0 * a1))) = false := decide_eq_false c17
        clear c17
        simp only [Option.some.injEq, Prod.mk.injEq] at H
        obtain ⟨rfl, rfl, rfl, rfl⟩ := H
        have hnb24 := NB164_162.out
        have hnc24 := NB162_164.out
        have hcz25_0 : wr.cell? ⟨gb164, 0, none⟩ = some (.int .i64 a0) := (bkC BK164.out 0).trans rfl
        have hcz25_1 : wr.cell? ⟨gb164, 1, none⟩ = some (.int .i64 a1) := (bkC BK164.out 1).trans rfl
        have hcz25_2 : wr.cell? ⟨gb164, 2, none⟩ = some (u165002) := (bkC BK164.out 2).trans rfl
        have hfz25_0 := bkF BK164.out 0
        have hfz25_1 := bkF BK164.out 1
        have hfz25_2 := bkF BK164.out 2
        have hcz26_0 : wr.cell? ⟨gb162, 0, none⟩ = some (.int .i64 0) := (bkC BK162.out 0).trans rfl
        have hcz26_1 : wr.cell? ⟨gb162, 1, none⟩ = some (.int .i64 0) := (bkC BK162.out 1).trans rfl
        have hcz26_2 : wr.cell? ⟨gb162, 2, none⟩ = some (.slice none 0 0) := (bkC BK162.out 2).trans rfl
        have hfz26_0 := bkF BK162.out 0
        have hfz26_1 := bkF BK162.out 1
        have hfz26_2 := bkF BK162.out 2
        obtain ⟨Ao27, co27, eo27⟩ := Kd.R_slice HO_165002.out
        subst eo27
        go_wp2
        refine bodyPost_ret (results_ct rfl _ _ gb162 53 #[.int .i64 a0, .int .i64 a1, .slice Ao27 x165002_2.length co27] (0, 0) _ rfl (by (with_reducible repeat (first | refine bkN ?_ _ | refine bkD ?_ | refine bkA ?_ _)); refine blk_put (cs := #[.int .i64 a0, .int .i64 a1, .slice none 0 0]) ?_ 2 _ rfl; (with_reducible repeat (first | refine bkN ?_ _ | refine bkD ?_ | refine bkA ?_ _)); refine blk_put (cs := #[.int .i64 a0, .int .i64 0, .slice none 0 0]) ?_ 1 _ rfl; (with_reducible repeat (first | refine bkN ?_ _ | refine bkD ?_ | refine bkA ?_ _)); refine blk_put (cs := #[.int .i64 0, .int .i64 0, .slice none 0 0]) ?_ 0 _ rfl; (with_reducible repeat (first | refine bkN ?_ _ | refine bkD ?_ | refine bkA ?_ _)); exact BK162.out) Tryz.underlying53 rfl (by kernel_rfl)) rfl ?_
        exact ⟨_, by first | rfl | (simp [errW_none, errW_some] <;> rfl) | (simp [*, errW_none, errW_some] <;> rfl), by (with_reducible repeat (first | apply Kd.R_alloc | apply Kd.R_drewN | apply Kd.R_drew)); exact Kd.R_mono (Kd.R_far (p := ⟨gb162, 2, none⟩) (Kd.R_far (p := ⟨gb162, 1, none⟩) (Kd.R_far (p := ⟨gb162, 0, none⟩) (Kd.R_types HO_165002.out BK162.out (by decide)) (fun _ hk => hk.2) (.int .i64 a0)) (fun _ hk => hk.2) (.int .i64 a1)) (fun _ hk => hk.2) (.slice Ao27 x165002_2.length co27)) (fun _ hk => trivial), by repeat (first | (with_reducible first | exact HB.out | apply bwA | apply bwN | apply bw1 | refine bwS ?_ GE162.out | refine bwS ?_ GE164.out) | exact HB.out)⟩
    ·replace c13 := Bool.eq_false_iff.mpr c13
     subst c13
     have H1 : (some (0, 0, ([] : List Int), 7)) = some (r1, r2, r3, r4) := by rw [if_neg (show ¬ (false = true) by decide)] at H; exact H
     clear H
     have H := H1
     clear H1
     simp only [Option.some.injEq, Prod.mk.injEq] at H
     obtain ⟨rfl, rfl, rfl, rfl⟩ := H
     go_wp2_with (first | ((with_reducible refine gate_callee (f := 61) rfl ?_); refine goesL_ (some 30) rfl rfl Tryz.func61 (by kernel_rfl) rfl #[.int .i64 a2] rfl (by (try simp only [List.map_toArray, List.map_cons, List.map_nil]); first | done | rfl | (simp only [List.length_drop, List.length_take]; rfl)) ?_; (with_reducible refine (r04_May.calls a2 false _ A12.out).mono ?_); rintro e w' ⟨rfl, ⟨nd, rfl⟩⟩; refine ⟨_, rfl, ?_⟩; (try (rw [drewN_self wc]; generalize hq_ : World.drewN wc _ = wc; have n0_ : Ad (wc.heap[gb162]? = some (.cells #[.int .i64 0, .int .i64 0, .slice none 0 0] 53 (0, 0))) := ⟨by rw [← hq_]; exact (by (with_reducible repeat (first | refine bkN ?_ _ | refine bkD ?_ | refine bkA ?_ _)); exact BK162.out)⟩; have n1_ : Ad (Below w.heap.size w wc) := ⟨by rw [← hq_]; exact (by repeat (first | (with_reducible first | exact HB.out | apply bwA | apply bwN | apply bw1 | refine bwS ?_ GE162.out) | exact HB.out))⟩; clear BK162 HB hq_; have BK162 := n0_; have HB := n1_; clear n0_ n1_)); have hcz28_0 : wc.cell? ⟨gb162, 0, none⟩ = some (.int .i64 0) := (bkC BK162.out 0).trans rfl; have hcz28_1 : wc.cell? ⟨gb162, 1, none⟩ = some (.int .i64 0) := (bkC BK162.out 1).trans rfl; have hcz28_2 : wc.cell? ⟨gb162, 2, none⟩ = some (.slice none 0 0) := (bkC BK162.out 2).trans rfl; have hfz28_0 := bkF BK162.out 0; have hfz28_1 := bkF BK162.out 1; have hfz28_2 := bkF BK162.out 2))
     refine bodyPost_ret (results_ct rfl _ _ gb162 53 #[.int .i64 0, .int .i64 0, .slice none 0 0] (0, 0) _ rfl (by (with_reducible repeat (first | refine bkN ?_ _ | refine bkD ?_ | refine bkA ?_ _)); refine blk_put (cs := #[.int .i64 0, .int .i64 0, .slice none 0 0]) ?_ 2 _ rfl; (with_reducible repeat (first | refine bkN ?_ _ | refine bkD ?_ | refine bkA ?_ _)); refine blk_put (cs := #[.int .i64 0, .int .i64 0, .slice none 0 0]) ?_ 1 _ rfl; (with_reducible repeat (first | refine bkN ?_ _ | refine bkD ?_ | refine bkA ?_ _)); refine blk_put (cs := #[.int .i64 0, .int .i64 0, .slice none 0 0]) ?_ 0 _ rfl; (with_reducible repeat (first | refine bkN ?_ _ | refine bkD ?_ | refine bkA ?_ _)); exact BK162.out) Tryz.underlying53 rfl (by kernel_rfl)) rfl ?_
     exact ⟨_, by first | rfl | (simp [errW_none, errW_some] <;> rfl) | (simp [*, errW_none, errW_some] <;> rfl), by first | exact Kd.R_nil _ _ _ _ _ | exact Kd.N_nil _ _ _ _ _ | exact Kd.V_nil _ _ _ _ _ | exact Kd.Q_nil _ _ _ _ _ | exact Kd.S_nil _ _ _ _ _, by repeat (first | (with_reducible first | exact HB.out | apply bwA | apply bwN | apply bw1 | refine bwS ?_ GE162.out) | exact HB.out)⟩
end Go.Proofs.YthnndjlccepebaaGreatDoor.PHeavy
namespace Go.Proofs.YthnndjlccepebaaGreatDoor.PHeavy
open Go.RowKit Go.Proofs.YthnndjlccepebaaGreatDoorW.PrintWords Go.Proofs.YthnndjlccepebaaGreatDoorW.PrintLast

def r09_New.f (k : Nat) (a0 : Int) (a1 : Int) (a2 : Int) : Option (Int × Int × List Int × Int) := (r08_New.f k a0 a1 a2 1024).bind fun bt169 => (some (bt169.1, bt169.2.1, bt169.2.2.1, bt169.2.2.2))
set_option maxHeartbeats 8000000 in
set_option maxRecDepth 100000 in
theorem r09_New.calls (k : Nat) (a0 : Int) (a1 : Int) (a2 : Int) (r1 : Int) (r2 : Int) (r3 : List Int) (r4 : Int) (w : World) (h : r09_New.f k a0 a1 a2 = some (r1, r2, r3, r4)) :
  Calls Tryz.prog 29 #[.int .i64 a0, .int .i64 a1, .int .i64 a2] w fun e w' => ∃ v2_ : Value, e = .returned (.tuple #[.agg #[.int .i64 r1, .int .i64 r2, v2_], .int .i64 r4]) ∧ Kd.R (Kd.int .i64) 2 w' w.heap.size (fun _ => True) v2_ r3 ∧ Below w.heap.size w w' := by
 have hu53 := Tryz.underlying53
 have HB := Ad.mk (Below.refl w.heap.size w)
 have H : ((r08_New.f k a0 a1 a2 1024).bind fun bt169 => (some (bt169.1, bt169.2.1, bt169.2.2.1, bt169.2.2.2))) = some (r1, r2, r3, r4) := h
 clear h
 replace H := Option.bind_eq_some_iff.mp H
 obtain ⟨⟨t169, t170, t171, t174⟩, A40, H⟩ := H
 replace H : (some (t169, t170, t171, t174)) = some (r1, r2, r3, r4) := H
 have A4 := Ad.mk A40
 clear A40
 simp only [Option.some.injEq, Prod.mk.injEq] at H
 obtain ⟨rfl, rfl, rfl, rfl⟩ := H
 go_enter Tryz.func29, Tryz.ntmps29
 go_wp2_with (first | ((with_reducible refine gate_dst (N := 6) rfl ?_); refine box_event ?hg (N := 6) ?hd (cs := #[.int .i64 0, .int .i64 0, .slice none 0 0]) (t := 53) ?hr ?_; (case hd => rfl); (case hg => rfl); (case hr => first | (go_simp; done) | (go_simp; rfl)); intro gb168 hg w5 hbox hb; have n0_ := Ad.mk (below_step (by repeat (first | (with_reducible first | exact HB.out | apply bwA | apply bwN | apply bw1) | exact HB.out)) hb); have n1_ := Ad.mk (hbox); have n2_ := Ad.mk ((by rw [hg]; exact (below_size (by repeat (first | (with_reducible first | exact HB.out | apply bwA | apply bwN | apply bw1) | exact HB.out))) : w.heap.size ≤ gb168)); have n3_ := Ad.mk ((by rw [hg]; exact (below_size (by repeat (first | (with_reducible first | exact HB.out | apply bwA | apply bwN | apply bw1) | exact HB.out))) : w.heap.size ≤ gb168)); clear HB; have HB := n0_; have BK168 := n1_; have GW168 := n2_; have GE168 := n3_; clear n0_ n1_ n2_ n3_; clear hb hbox hg) | ((with_reducible refine gate_callee (f := 53) rfl ?_); refine goesL_ (some 11) rfl rfl Tryz.func53 (by kernel_rfl) rfl #[.int .i64 a0, .int .i64 a1, .int .i64 a2, .int .i64 1024] rfl (by (try simp only [List.map_toArray, List.map_cons, List.map_nil]); first | done | rfl | (simp only [List.length_drop, List.length_take]; rfl)) ?_; (with_reducible refine (r08_New.calls k a0 a1 a2 1024 t169 t170 t171 t174 _ A4.out).mono ?_); rintro e w6 ⟨v172, rfl, ho0, hb⟩; refine ⟨_, rfl, ?_⟩; have n0_ := Ad.mk (Kd.R_lower ho0 (below_size (by repeat (first | (with_reducible first | exact HB.out | apply bwA | apply bwN | apply bw1 | refine bwS ?_ GE168.out) | exact HB.out)))); have n1_ := Ad.mk (blk_below (g := gb168) (o := .cells #[.int .i64 0, .int .i64 0, .slice none 0 0] 53 (0, 0)) (by (with_reducible repeat (first | refine bkN ?_ _ | refine bkD ?_ | refine bkA ?_ _)); exact BK168.out) hb); have n2_ := Ad.mk (below_step (by repeat (first | (with_reducible first | exact HB.out | apply bwA | apply bwN | apply bw1 | refine bwS ?_ GE168.out) | exact HB.out)) hb); clear BK168; clear HB; have HO173 := n0_; have BK168 := n1_; have HB := n2_; clear n0_ n1_ n2_; (try clear hb); (try clear hb2); (try clear hk); (try clear hi); (try clear ho0); have hcz7_0 : w6.cell? ⟨gb168, 0, none⟩ = some (.int .i64 0) := (bkC BK168.out 0).trans rfl; have hcz7_1 : w6.cell? ⟨gb168, 1, none⟩ = some (.int .i64 0) := (bkC BK168.out 1).trans rfl; have hcz7_2 : w6.cell? ⟨gb168, 2, none⟩ = some (.slice none 0 0) := (bkC BK168.out 2).trans rfl; have hfz7_0 := bkF BK168.out 0; have hfz7_1 := bkF BK168.out 1; have hfz7_2 := bkF BK168.out 2; obtain ⟨Ao8, co8, eo8⟩ := Kd.R_slice HO173.out; subst eo8))
 refine bodyPost_ret (results_ct rfl _ _ gb168 53 #[.int .i64 t169, .int .i64 t170, .slice Ao8 t171.length co8] (0, 0) _ rfl (by (with_reducible repeat (first | refine bkN ?_ _ | refine bkD ?_ | refine bkA ?_ _)); refine blk_put (cs := #[.int .i64 t169, .int .i64 t170, .slice none 0 0]) ?_ 2 _ rfl; (with_reducible repeat (first | refine bkN ?_ _ | refine bkD ?_ | refine bkA ?_ _)); refine blk_put (cs := #[.int .i64 t169, .int .i64 0, .slice none 0 0]) ?_ 1 _ rfl; (with_reducible repeat (first | refine bkN ?_ _ | refine bkD ?_ | refine bkA ?_ _)); refine blk_put (cs := #[.int .i64 0, .int .i64 0, .slice none 0 0]) ?_ 0 _ rfl; (with_reducible repeat (first | refine bkN ?_ _ | refine bkD ?_ | refine bkA ?_ _)); exact BK168.out) Tryz.underlying53 rfl (by kernel_rfl)) rfl ?_
 exact ⟨_, by first | rfl | (simp [errW_none, errW_some] <;> rfl) | (simp [*, errW_none, errW_some] <;> rfl), by (with_reducible repeat (first | apply Kd.R_alloc | apply Kd.R_drewN | apply Kd.R_drew)); exact Kd.R_mono (Kd.R_far (p := ⟨gb168, 2, none⟩) (Kd.R_far (p := ⟨gb168, 1, none⟩) (Kd.R_far (p := ⟨gb168, 0, none⟩) (Kd.R_types HO173.out BK168.out (by decide)) (fun _ hk => hk.2) (.int .i64 t169)) (fun _ hk => hk.2) (.int .i64 t170)) (fun _ hk => hk.2) (.slice Ao8 t171.length co8)) (fun _ hk => trivial), by repeat (first | (with_reducible first | exact HB.out | apply bwA | apply bwN | apply bw1 | refine bwS ?_ GE168.out) | exact HB.out)⟩
def r09_All.f (a0_0 : Int) (a0_1 : Int) (l0_2 : List Int) : Option (Int × Int × Int × Int) := some (0, 0, wrap64 (a0_0 - 1), wrap64 (a0_1 - 1))
set_option maxHeartbeats 8000000 in
set_option maxRecDepth 100000 in
theorem r09_All.calls (a0_0 : Int) (a0_1 : Int) (A0_2 : Option Addr) (c0_2 : Nat) (l0_2 : List Int) (r1 : Int) (r2 : Int) (r3 : Int) (r4 : Int) (w : World) (hr0_2 : Kd.C (Kd.int .i64) w A0_2 l0_2.length l0_2) (hc0_2 : l0_2.length ≤ c0_2) (h : r09_All.f a0_0 a0_1 l0_2 = some (r1, r2, r3, r4)) :
  Calls Tryz.prog 55 #[.agg #[.int .i64 a0_0, .int .i64 a0_1, .slice A0_2 l0_2.length c0_2]] w fun e w' => e = .returned (.agg #[.int .i64 r1, .int .i64 r2, .int .i64 r3, .int .i64 r4]) ∧ Below w.heap.size w w' := by
 have hu53 := Tryz.underlying53
 have hu23 := Tryz.underlying23
 have HR0_2 := Ad.mk hr0_2
 have HC0_2 := Ad.mk hc0_2
 clear hr0_2 hc0_2
 have HB := Ad.mk (Below.refl w.heap.size w)
 have H : (some (0, 0, wrap64 (a0_0 - 1), wrap64 (a0_1 - 1))) = some (r1, r2, r3, r4) := h
 clear h
 simp only [Option.some.injEq, Prod.mk.injEq] at H
 obtain ⟨rfl, rfl, rfl, rfl⟩ := H
 go_enter Tryz.func55, Tryz.ntmps55
 go_wp2_with (first | ((with_reducible refine gate_dst (N := 1) rfl ?_); refine box_event ?hg (N := 1) ?hd (cs := #[.int .i64 a0_0, .int .i64 a0_1, .slice A0_2 l0_2.length c0_2]) (t := 53) ?hr ?_; (case hd => rfl); (case hg => rfl); (case hr => first | (go_simp; done) | (go_simp; rfl)); intro gb175 hg w2 hbox hb; have n0_ := Ad.mk (below_step (by repeat (first | (with_reducible first | exact HB.out | apply bwA | apply bwN | apply bw1) | exact HB.out)) hb); have n1_ := Ad.mk (hbox); have n2_ := Ad.mk ((by rw [hg]; exact (below_size (by repeat (first | (with_reducible first | exact HB.out | apply bwA | apply bwN | apply bw1) | exact HB.out))) : w.heap.size ≤ gb175)); have n3_ := Ad.mk ((by rw [hg]; exact (below_size (by repeat (first | (with_reducible first | exact HB.out | apply bwA | apply bwN | apply bw1) | exact HB.out))) : w.heap.size ≤ gb175)); clear HB; have HB := n0_; have BK175 := n1_; have GW175 := n2_; have GE175 := n3_; clear n0_ n1_ n2_ n3_; clear hb hbox hg) | ((with_reducible refine gate_dst (N := 2) rfl ?_); refine box_event ?hg (N := 2) ?hd (cs := #[.int .i64 0, .int .i64 0, .int .i64 0, .int .i64 0]) (t := 23) ?hr ?_; (case hd => rfl); (case hg => rfl); (case hr => first | (go_simp; done) | (go_simp; rfl)); intro gb176 hg w3 hbox hb; have n0_ := Ad.mk (blk_below (g := gb175) (o := .cells #[.int .i64 a0_0, .int .i64 a0_1, .slice A0_2 l0_2.length c0_2] 53 (0, 0)) (by (with_reducible repeat (first | refine bkN ?_ _ | refine bkD ?_ | refine bkA ?_ _)); exact BK175.out) hb); have n1_ := Ad.mk (below_step (by repeat (first | (with_reducible first | exact HB.out | apply bwA | apply bwN | apply bw1 | refine bwS ?_ GE175.out) | exact HB.out)) hb); have n2_ := Ad.mk (hbox); have n3_ := Ad.mk ((by rw [hg]; exact (below_size (by repeat (first | (with_reducible first | exact HB.out | apply bwA | apply bwN | apply bw1 | refine bwS ?_ GE175.out) | exact HB.out))) : w.heap.size ≤ gb176)); have n4_ := Ad.mk ((by rw [hg]; exact (below_size (by repeat (first | (with_reducible first | exact HB.out | apply bwA | apply bwN | apply bw1 | refine bwS ?_ GE175.out) | exact HB.out))) : w.heap.size ≤ gb176)); have n5_ := Ad.mk ((by rw [hg]; exact Nat.ne_of_lt (blk_lt (g := gb175) (o := .cells #[.int .i64 a0_0, .int .i64 a0_1, .slice A0_2 l0_2.length c0_2] 53 (0, 0)) (by (with_reducible repeat (first | refine bkN ?_ _ | refine bkD ?_ | refine bkA ?_ _)); exact BK175.out)) : gb175 ≠ gb176)); have n6_ := Ad.mk ((by rw [hg]; exact Nat.ne_of_gt (blk_lt (g := gb175) (o := .cells #[.int .i64 a0_0, .int .i64 a0_1, .slice A0_2 l0_2.length c0_2] 53 (0, 0)) (by (with_reducible repeat (first | refine bkN ?_ _ | refine bkD ?_ | refine bkA ?_ _)); exact BK175.out)) : gb176 ≠ gb175)); clear BK175; clear HB; have BK175 := n0_; have HB := n1_; have BK176 := n2_; have GW176 := n3_; have GE176 := n4_; have NB175_176 := n5_; have NB176_175 := n6_; clear n0_ n1_ n2_ n3_ n4_ n5_ n6_; clear hb hbox hg; have hnb4 := NB175_176.out; have hnc4 := NB176_175.out; have hcz5_0 : w3.cell? ⟨gb175, 0, none⟩ = some (.int .i64 a0_0) := (bkC BK175.out 0).trans rfl; have hcz5_1 : w3.cell? ⟨gb175, 1, none⟩ = some (.int .i64 a0_1) := (bkC BK175.out 1).trans rfl; have hcz5_2 : w3.cell? ⟨gb175, 2, none⟩ = some (.slice A0_2 l0_2.length c0_2) := (bkC BK175.out 2).trans rfl; have hfz5_0 := bkF BK175.out 0; have hfz5_1 := bkF BK175.out 1; have hfz5_2 := bkF BK175.out 2; have hcz6_0 : w3.cell? ⟨gb176, 0, none⟩ = some (.int .i64 0) := (bkC BK176.out 0).trans rfl; have hcz6_1 : w3.cell? ⟨gb176, 1, none⟩ = some (.int .i64 0) := (bkC BK176.out 1).trans rfl; have hcz6_2 : w3.cell? ⟨gb176, 2, none⟩ = some (.int .i64 0) := (bkC BK176.out 2).trans rfl; have hcz6_3 : w3.cell? ⟨gb176, 3, none⟩ = some (.int .i64 0) := (bkC BK176.out 3).trans rfl; have hfz6_0 := bkF BK176.out 0; have hfz6_1 := bkF BK176.out 1; have hfz6_2 := bkF BK176.out 2; have hfz6_3 := bkF BK176.out 3))
 refine bodyPost_ret (results_cell_row rfl _ _ gb176 23 #[.int .i64 0, .int .i64 0, .int .i64 (wrap64 (a0_0 - 1)), .int .i64 (wrap64 (a0_1 - 1))] (0, 0) _ rfl (by (with_reducible repeat (first | refine bkN ?_ _ | refine bkD ?_ | refine bkA ?_ _)); refine blk_put (cs := #[.int .i64 0, .int .i64 0, .int .i64 (wrap64 (a0_0 - 1)), .int .i64 0]) ?_ 3 _ rfl; (with_reducible repeat (first | refine bkN ?_ _ | refine bkD ?_ | refine bkA ?_ _)); refine blk_put (cs := #[.int .i64 0, .int .i64 0, .int .i64 0, .int .i64 0]) ?_ 2 _ rfl; (with_reducible repeat (first | refine bkN ?_ _ | refine bkD ?_ | refine bkA ?_ _)); refine blk_put (cs := #[.int .i64 0, .int .i64 0, .int .i64 0, .int .i64 0]) ?_ 1 _ rfl; (with_reducible repeat (first | refine bkN ?_ _ | refine bkD ?_ | refine bkA ?_ _)); refine blk_put (cs := #[.int .i64 0, .int .i64 0, .int .i64 0, .int .i64 0]) ?_ 0 _ rfl; (with_reducible repeat (first | refine bkN ?_ _ | refine bkD ?_ | refine bkA ?_ _)); exact BK176.out) Tryz.underlying23 rfl (by kernel_rfl)) rfl ?_
 exact ⟨by first | rfl | (simp [errW_none, errW_some] <;> rfl) | (simp [*, errW_none, errW_some] <;> rfl), by repeat (first | (with_reducible first | exact HB.out | apply bwA | apply bwN | apply bw1 | refine bwS ?_ GE175.out | refine bwS ?_ GE176.out) | exact HB.out)⟩
def r09_Tiles.f (k : Nat) (a0_0 : Int) (a0_1 : Int) (l0_2 : List Int) : Option ((List (S23))) := (r09_All.f a0_0 a0_1 l0_2).bind fun bt178 => ((r07_Pieces.f k bt178.1 bt178.2.1 bt178.2.2.1 bt178.2.2.2).bind fun t182 => (some t182))
set_option maxHeartbeats 8000000 in
set_option maxRecDepth 100000 in
theorem r09_Tiles.calls (k : Nat) (a0_0 : Int) (a0_1 : Int) (A0_2 : Option Addr) (c0_2 : Nat) (l0_2 : List Int) (r : List (S23)) (w : World) (hr0_2 : Kd.C (Kd.int .i64) w A0_2 l0_2.length l0_2) (hc0_2 : l0_2.length ≤ c0_2) (h : r09_Tiles.f k a0_0 a0_1 l0_2 = some r) :
  Calls Tryz.prog 30 #[.agg #[.int .i64 a0_0, .int .i64 a0_1, .slice A0_2 l0_2.length c0_2]] w fun e w' => ∃ v0_ : Value, e = .returned (v0_) ∧ Kd.R k23 23 w' w.heap.size (fun _ => True) v0_ r ∧ Below w.heap.size w w' := by
 have hu53 := Tryz.underlying53
 have HR0_2 := Ad.mk hr0_2
 have HC0_2 := Ad.mk hc0_2
 clear hr0_2 hc0_2
 have HB := Ad.mk (Below.refl w.heap.size w)
 have H : ((r09_All.f a0_0 a0_1 l0_2).bind fun bt178 => ((r07_Pieces.f k bt178.1 bt178.2.1 bt178.2.2.1 bt178.2.2.2).bind fun t182 => (some t182))) = some r := h
 clear h
 replace H := Option.bind_eq_some_iff.mp H
 obtain ⟨⟨t178, t179, t180, t181⟩, A20, H⟩ := H
 replace H : ((r07_Pieces.f k t178 t179 t180 t181).bind fun t182 => (some t182)) = some r := H
 have A2 := Ad.mk A20
 clear A20
 replace H := Option.bind_eq_some_iff.mp H
 obtain ⟨t182, A30, H⟩ := H
 replace H : (some t182) = some r := H
 have A3 := Ad.mk A30
 clear A30
 obtain rfl := Option.some.inj H
 go_enter Tryz.func30, Tryz.ntmps30
 go_wp2_with (first | ((with_reducible refine gate_dst (N := 1) rfl ?_); refine box_event ?hg (N := 1) ?hd (cs := #[.int .i64 a0_0, .int .i64 a0_1, .slice A0_2 l0_2.length c0_2]) (t := 53) ?hr ?_; (case hd => rfl); (case hg => rfl); (case hr => first | (go_simp; done) | (go_simp; rfl)); intro gb177 hg w4 hbox hb; have n0_ := Ad.mk (below_step (by repeat (first | (with_reducible first | exact HB.out | apply bwA | apply bwN | apply bw1) | exact HB.out)) hb); have n1_ := Ad.mk (hbox); have n2_ := Ad.mk ((by rw [hg]; exact (below_size (by repeat (first | (with_reducible first | exact HB.out | apply bwA | apply bwN | apply bw1) | exact HB.out))) : w.heap.size ≤ gb177)); have n3_ := Ad.mk ((by rw [hg]; exact (below_size (by repeat (first | (with_reducible first | exact HB.out | apply bwA | apply bwN | apply bw1) | exact HB.out))) : w.heap.size ≤ gb177)); clear HB; have HB := n0_; have BK177 := n1_; have GW177 := n2_; have GE177 := n3_; clear n0_ n1_ n2_ n3_; clear hb hbox hg; have hcz5_0 : w4.cell? ⟨gb177, 0, none⟩ = some (.int .i64 a0_0) := (bkC BK177.out 0).trans rfl; have hcz5_1 : w4.cell? ⟨gb177, 1, none⟩ = some (.int .i64 a0_1) := (bkC BK177.out 1).trans rfl; have hcz5_2 : w4.cell? ⟨gb177, 2, none⟩ = some (.slice A0_2 l0_2.length c0_2) := (bkC BK177.out 2).trans rfl; have hfz5_0 := bkF BK177.out 0; have hfz5_1 := bkF BK177.out 1; have hfz5_2 := bkF BK177.out 2) | ((with_reducible refine gate_callee (f := 55) rfl ?_); refine goesL_ (some 4) rfl rfl Tryz.func55 (by kernel_rfl) rfl #[.agg #[.int .i64 a0_0, .int .i64 a0_1, .slice A0_2 l0_2.length c0_2]] rfl (by (try simp only [List.map_toArray, List.map_cons, List.map_nil]); first | done | rfl | (simp only [List.length_drop, List.length_take]; rfl)) ?_; (with_reducible refine (r09_All.calls a0_0 a0_1 _ _ l0_2 t178 t179 t180 t181 _ ?side1 ?side2 A2.out).mono ?_); (case side1 => repeat (first | exact (Kd.C_below HR0_2.out HB.out) | (with_reducible refine Kd.C_alloc ?_ _) | (with_reducible refine Kd.C_drewN ?_ _) | (with_reducible refine Kd.C_drew ?_))); (case side2 => exact HC0_2.out); rintro e w6 ⟨rfl, hb⟩; refine ⟨_, rfl, ?_⟩; have n0_ := Ad.mk (blk_below (g := gb177) (o := .cells #[.int .i64 a0_0, .int .i64 a0_1, .slice A0_2 l0_2.length c0_2] 53 (0, 0)) (by (with_reducible repeat (first | refine bkN ?_ _ | refine bkD ?_ | refine bkA ?_ _)); exact BK177.out) hb); have n1_ := Ad.mk (below_step (by repeat (first | (with_reducible first | exact HB.out | apply bwA | apply bwN | apply bw1 | refine bwS ?_ GE177.out) | exact HB.out)) hb); clear BK177; clear HB; have BK177 := n0_; have HB := n1_; clear n0_ n1_; (try clear hb); (try clear hb2); (try clear hk); (try clear hi)) | ((with_reducible refine gate_callee (f := 54) rfl ?_); refine goesL_ (some 5) rfl rfl Tryz.func54 (by kernel_rfl) rfl #[.agg #[.int .i64 t178, .int .i64 t179, .int .i64 t180, .int .i64 t181]] rfl (by (try simp only [List.map_toArray, List.map_cons, List.map_nil]); first | done | rfl | (simp only [List.length_drop, List.length_take]; rfl)) ?_; (with_reducible refine (r07_Pieces.calls k t178 t179 t180 t181 t182 _ A3.out).mono ?_); rintro e w7 ⟨v183, rfl, ho0, hb⟩; refine ⟨_, rfl, ?_⟩; have n0_ := Ad.mk (Kd.R_lower ho0 (below_size (by repeat (first | (with_reducible first | exact HB.out | apply bwA | apply bwN | apply bw1 | refine bwS ?_ GE177.out) | exact HB.out)))); have n1_ := Ad.mk (blk_below (g := gb177) (o := .cells #[.int .i64 a0_0, .int .i64 a0_1, .slice A0_2 l0_2.length c0_2] 53 (0, 0)) (by (with_reducible repeat (first | refine bkN ?_ _ | refine bkD ?_ | refine bkA ?_ _)); exact BK177.out) hb); have n2_ := Ad.mk (below_step (by repeat (first | (with_reducible first | exact HB.out | apply bwA | apply bwN | apply bw1 | refine bwS ?_ GE177.out) | exact HB.out)) hb); clear BK177; clear HB; have HO184 := n0_; have BK177 := n1_; have HB := n2_; clear n0_ n1_ n2_; (try clear hb); (try clear hb2); (try clear hk); (try clear hi); (try clear ho0)))
 go_ret
 exact ⟨_, by first | rfl | (simp [errW_none, errW_some] <;> rfl) | (simp [*, errW_none, errW_some] <;> rfl), by (with_reducible repeat (first | apply Kd.R_alloc | apply Kd.R_drewN | apply Kd.R_drew)); exact HO184.out, by repeat (first | (with_reducible first | exact HB.out | apply bwA | apply bwN | apply bw1 | refine bwS ?_ GE177.out) | exact HB.out)⟩
def r14_size.f (a0_0 : Int) (a0_1 : Int) (a0_2 : Int) (a0_3 : Int) : Option (Int × Int) := some (wrap64 ((wrap64 (a0_2 - a0_0)) + 1), wrap64 ((wrap64 (a0_3 - a0_1)) + 1))
set_option maxHeartbeats 8000000 in
set_option maxRecDepth 100000 in
theorem r14_size.calls (a0_0 : Int) (a0_1 : Int) (a0_2 : Int) (a0_3 : Int) (r1 : Int) (r2 : Int) (w : World) (h : r14_size.f a0_0 a0_1 a0_2 a0_3 = some (r1, r2)) :
  Calls Tryz.prog 31 #[.agg #[.int .i64 a0_0, .int .i64 a0_1, .int .i64 a0_2, .int .i64 a0_3]] w fun e w' => e = .returned (.tuple #[.int .i64 r1, .int .i64 r2]) ∧ Below w.heap.size w w' := by
 have hu23 := Tryz.underlying23
 have HB := Ad.mk (Below.refl w.heap.size w)
 have H : (some (wrap64 ((wrap64 (a0_2 - a0_0)) + 1), wrap64 ((wrap64 (a0_3 - a0_1)) + 1))) = some (r1, r2) := h
 clear h
 simp only [Option.some.injEq, Prod.mk.injEq] at H
 obtain ⟨rfl, rfl⟩ := H
 go_enter Tryz.func31, Tryz.ntmps31
 go_wp2_with (first | ((with_reducible refine gate_dst (N := 1) rfl ?_); refine box_event ?hg (N := 1) ?hd (cs := #[.int .i64 a0_0, .int .i64 a0_1, .int .i64 a0_2, .int .i64 a0_3]) (t := 23) ?hr ?_; (case hd => rfl); (case hg => rfl); (case hr => first | (go_simp; done) | (go_simp; rfl)); intro gb185 hg w2 hbox hb; have n0_ := Ad.mk (below_step (by repeat (first | (with_reducible first | exact HB.out | apply bwA | apply bwN | apply bw1) | exact HB.out)) hb); have n1_ := Ad.mk (hbox); have n2_ := Ad.mk ((by rw [hg]; exact (below_size (by repeat (first | (with_reducible first | exact HB.out | apply bwA | apply bwN | apply bw1) | exact HB.out))) : w.heap.size ≤ gb185)); have n3_ := Ad.mk ((by rw [hg]; exact (below_size (by repeat (first | (with_reducible first | exact HB.out | apply bwA | apply bwN | apply bw1) | exact HB.out))) : w.heap.size ≤ gb185)); clear HB; have HB := n0_; have BK185 := n1_; have GW185 := n2_; have GE185 := n3_; clear n0_ n1_ n2_ n3_; clear hb hbox hg; have hcz3_0 : w2.cell? ⟨gb185, 0, none⟩ = some (.int .i64 a0_0) := (bkC BK185.out 0).trans rfl; have hcz3_1 : w2.cell? ⟨gb185, 1, none⟩ = some (.int .i64 a0_1) := (bkC BK185.out 1).trans rfl; have hcz3_2 : w2.cell? ⟨gb185, 2, none⟩ = some (.int .i64 a0_2) := (bkC BK185.out 2).trans rfl; have hcz3_3 : w2.cell? ⟨gb185, 3, none⟩ = some (.int .i64 a0_3) := (bkC BK185.out 3).trans rfl; have hfz3_0 := bkF BK185.out 0; have hfz3_1 := bkF BK185.out 1; have hfz3_2 := bkF BK185.out 2; have hfz3_3 := bkF BK185.out 3))
 repeat (go_quiet (first | ((with_reducible refine gate_dst (N := 1) rfl ?_); refine box_event ?hg (N := 1) ?hd (cs := #[.int .i64 a0_0, .int .i64 a0_1, .int .i64 a0_2, .int .i64 a0_3]) (t := 23) ?hr ?_; (case hd => rfl); (case hg => rfl); (case hr => first | (go_simp; done) | (go_simp; rfl)); intro gb185 hg w2 hbox hb; have n0_ := Ad.mk (below_step (by repeat (first | (with_reducible first | exact HB.out | apply bwA | apply bwN | apply bw1) | exact HB.out)) hb); have n1_ := Ad.mk (hbox); have n2_ := Ad.mk ((by rw [hg]; exact (below_size (by repeat (first | (with_reducible first | exact HB.out | apply bwA | apply bwN | apply bw1) | exact HB.out))) : w.heap.size ≤ gb185)); have n3_ := Ad.mk ((by rw [hg]; exact (below_size (by repeat (first | (with_reducible first | exact HB.out | apply bwA | apply bwN | apply bw1) | exact HB.out))) : w.heap.size ≤ gb185)); clear HB; have HB := n0_; have BK185 := n1_; have GW185 := n2_; have GE185 := n3_; clear n0_ n1_ n2_ n3_; clear hb hbox hg; have hcz3_0 : w2.cell? ⟨gb185, 0, none⟩ = some (.int .i64 a0_0) := (bkC BK185.out 0).trans rfl; have hcz3_1 : w2.cell? ⟨gb185, 1, none⟩ = some (.int .i64 a0_1) := (bkC BK185.out 1).trans rfl; have hcz3_2 : w2.cell? ⟨gb185, 2, none⟩ = some (.int .i64 a0_2) := (bkC BK185.out 2).trans rfl; have hcz3_3 : w2.cell? ⟨gb185, 3, none⟩ = some (.int .i64 a0_3) := (bkC BK185.out 3).trans rfl; have hfz3_0 := bkF BK185.out 0; have hfz3_1 := bkF BK185.out 1; have hfz3_2 := bkF BK185.out 2; have hfz3_3 := bkF BK185.out 3)); try go_wp2_with (first | ((with_reducible refine gate_dst (N := 1) rfl ?_); refine box_event ?hg (N := 1) ?hd (cs := #[.int .i64 a0_0, .int .i64 a0_1, .int .i64 a0_2, .int .i64 a0_3]) (t := 23) ?hr ?_; (case hd => rfl); (case hg => rfl); (case hr => first | (go_simp; done) | (go_simp; rfl)); intro gb185 hg w2 hbox hb; have n0_ := Ad.mk (below_step (by repeat (first | (with_reducible first | exact HB.out | apply bwA | apply bwN | apply bw1) | exact HB.out)) hb); have n1_ := Ad.mk (hbox); have n2_ := Ad.mk ((by rw [hg]; exact (below_size (by repeat (first | (with_reducible first | exact HB.out | apply bwA | apply bwN | apply bw1) | exact HB.out))) : w.heap.size ≤ gb185)); have n3_ := Ad.mk ((by rw [hg]; exact (below_size (by repeat (first | (with_reducible first | exact HB.out | apply bwA | apply bwN | apply bw1) | exact HB.out))) : w.heap.size ≤ gb185)); clear HB; have HB := n0_; have BK185 := n1_; have GW185 := n2_; have GE185 := n3_; clear n0_ n1_ n2_ n3_; clear hb hbox hg; have hcz3_0 : w2.cell? ⟨gb185, 0, none⟩ = some (.int .i64 a0_0) := (bkC BK185.out 0).trans rfl; have hcz3_1 : w2.cell? ⟨gb185, 1, none⟩ = some (.int .i64 a0_1) := (bkC BK185.out 1).trans rfl; have hcz3_2 : w2.cell? ⟨gb185, 2, none⟩ = some (.int .i64 a0_2) := (bkC BK185.out 2).trans rfl; have hcz3_3 : w2.cell? ⟨gb185, 3, none⟩ = some (.int .i64 a0_3) := (bkC BK185.out 3).trans rfl; have hfz3_0 := bkF BK185.out 0; have hfz3_1 := bkF BK185.out 1; have hfz3_2 := bkF BK185.out 2; have hfz3_3 := bkF BK185.out 3)))
 go_ret2
 exact ⟨by first | rfl | (simp [errW_none, errW_some] <;> rfl) | (simp [*, errW_none, errW_some] <;> rfl), by repeat (first | (with_reducible first | exact HB.out | apply bwA | apply bwN | apply bw1 | refine bwS ?_ GE185.out) | exact HB.out)⟩
def r06_Right.f (a0 : Int) (a1 : Int) : Option (Bool) := if a0 > 0 then (if a0 < 17 then (if a1 > 0 then (some (decide (a1 < 17))) else (some false)) else (some false)) else (some false)
set_option maxHeartbeats 8000000 in
set_option maxRecDepth 100000 in
theorem r06_Right.calls (a0 : Int) (a1 : Int) (r : Bool) (w : World) (h : r06_Right.f a0 a1 = some r) :
  Calls Tryz.prog 56 #[.int .i64 a0, .int .i64 a1] w fun e w' => e = .returned (.bool r) ∧ Drawn0 w w' := by
 have H : (if a0 > 0 then (if a0 < 17 then (if a1 > 0 then (some (decide (a1 < 17))) else (some false)) else (some false)) else (some false)) = some r := h
 clear h
 by_cases c3 : a0 > 0
 ·rw [if_pos c3] at H
  have c3b0 : decide (0 < a0) = true := decide_eq_true c3
  clear c3
  by_cases c4 : a0 < 17
  ·rw [if_pos c4] at H
   have c4b0 : decide (a0 < 17) = true := decide_eq_true c4
   clear c4
   by_cases c5 : a1 > 0
   ·rw [if_pos c5] at H
    have c5b0 : decide (0 < a1) = true := decide_eq_true c5
    clear c5
    obtain rfl := Option.some.inj H
    go_enter Tryz.func56, Tryz.ntmps56
    go_wp2
    go_ret
    exact ⟨by first | rfl | (simp; done) | (simp [*]; done), by repeat (first | exact Drawn0.refl _ | apply Drawn0.step)⟩
   ·rw [if_neg c5] at H
    have c5b0 : decide (0 < a1) = false := decide_eq_false c5
    clear c5
    obtain rfl := Option.some.inj H
    go_enter Tryz.func56, Tryz.ntmps56
    go_wp2
    go_ret
    exact ⟨by first | rfl | (simp; done) | (simp [*]; done), by repeat (first | exact Drawn0.refl _ | apply Drawn0.step)⟩
  ·rw [if_neg c4] at H
   have c4b0 : decide (a0 < 17) = false := decide_eq_false c4
   clear c4
   obtain rfl := Option.some.inj H
   go_enter Tryz.func56, Tryz.ntmps56
   go_wp2
   go_ret
   exact ⟨by first | rfl | (simp; done) | (simp [*]; done), by repeat (first | exact Drawn0.refl _ | apply Drawn0.step)⟩
 ·rw [if_neg c3] at H
  have c3b0 : decide (0 < a0) = false := decide_eq_false c3
  clear c3
  obtain rfl := Option.some.inj H
  go_enter Tryz.func56, Tryz.ntmps56
  go_wp2
  go_ret
  exact ⟨by first | rfl | (simp; done) | (simp [*]; done), by repeat (first | exact Drawn0.refl _ | apply Drawn0.step)⟩
mutual
def r02_Get.j0 : Nat → List Int → Int → Bool → Option (Int × Int × Int)
 | 0, _, _, _ => none
 | k + 1, x0, x1, x18 => if x18 = true then (some (0, 0, 11)) else (r02_Get.l0 k x0 x1 0 1 0)
def r02_Get.l0 : Nat → List Int → Int → Int → Int → Int → Option (Int × Int × Int)
 | 0, _, _, _, _, _ => none
 | k + 1, x0, x1, x7, x8, x9 => if x9 < 10 then (if (wrap64 ((x0.length : Int) - x1)) ≤ x9 then (some (0, 0, 14)) else (if 0 ≤ (wrap64 (x1 + x9)) then (if (wrap64 (x1 + x9)) < (x0.length : Int) then (if x9 = 9 then (if (rd x0 (wrap64 (x1 + x9))) > 1 then (r02_Get.j2 k x0 x1 x7 x8 x9 (rd x0 (wrap64 (x1 + x9))) true) else (if x9 > 0 then (r02_Get.j2 k x0 x1 x7 x8 x9 (rd x0 (wrap64 (x1 + x9))) ((rd x0 (wrap64 (x1 + x9))) == 0)) else (r02_Get.j2 k x0 x1 x7 x8 x9 (rd x0 (wrap64 (x1 + x9))) false))) else (if x9 > 0 then (r02_Get.j2 k x0 x1 x7 x8 x9 (rd x0 (wrap64 (x1 + x9))) ((rd x0 (wrap64 (x1 + x9))) == 0)) else (r02_Get.j2 k x0 x1 x7 x8 x9 (rd x0 (wrap64 (x1 + x9))) false))) else (none)) else (none))) else (some (0, 0, 13))
def r02_Get.j2 : Nat → List Int → Int → Int → Int → Int → Int → Bool → Option (Int × Int × Int)
 | 0, _, _, _, _, _, _, _ => none
 | k + 1, x0, x1, x7, x8, x9, x10, x48 => if x48 = true then (some (0, 0, 13)) else (if x10 < 128 then (some (IntKind.u64.wrap (x7 + (IntKind.u64.wrap ((IntKind.u64.wrap (Int.tmod x10 128)) * x8))), wrap64 ((wrap64 (x1 + x9)) + 1), 0)) else (r02_Get.l0 k x0 x1 (IntKind.u64.wrap (x7 + (IntKind.u64.wrap ((IntKind.u64.wrap (Int.tmod x10 128)) * x8)))) (IntKind.u64.wrap (x8 * 128)) (wrap64 (x9 + 1))))
end
def r02_Get.f (k : Nat) (l0 : List Int) (a1 : Int) : Option (Int × Int × Int) := if a1 < 0 then (r02_Get.j0 k l0 a1 true) else (r02_Get.j0 k l0 a1 (decide (a1 > (l0.length : Int))))
set_option maxHeartbeats 8000000 in
set_option maxRecDepth 100000 in
theorem r02_Get.calls (k : Nat) (A0 : Option Addr) (c0 : Nat) (l0 : List Int) (a1 : Int) (r1 : Int) (r2 : Int) (r3 : Int) (w : World) (hr0 : Kd.C (Kd.int .u8) w A0 l0.length l0) (hc0 : l0.length ≤ c0) (h : r02_Get.f k l0 a1 = some (r1, r2, r3)) :
  Calls Tryz.prog 104 #[.slice A0 l0.length c0, .int .i64 a1] w fun e w' => e = .returned (.tuple #[.int .u64 r1, .int .i64 r2, .int .i64 r3]) ∧ Drawn0 w w' := by
 have HR0 := Ad.mk hr0
 have HC0 := Ad.mk hc0
 clear hr0 hc0
 have H : (if a1 < 0 then (r02_Get.j0 k l0 a1 true) else (r02_Get.j0 k l0 a1 (decide (a1 > (l0.length : Int))))) = some (r1, r2, r3) := h
 clear h
 have HC3 := Ad.mk H
 clear H
 go_enter Tryz.func104, Tryz.ntmps104
 go_upto_region 1 with (fail)
 go_cut [18] (fun v18 wc => ∃ (kq : Nat) (x18_2 : Bool), v18 = .bool x18_2 ∧ Ad (r02_Get.j0 kq l0 a1 x18_2 = some (r1, r2, r3)) ∧ Ad (kq ≤ k) ∧ Drawn0 w wc)
 case first =>
  have H := HC3.out
  clear HC3
  by_cases c4 : a1 < 0
  ·rw [if_pos c4] at H
   have c4b0 : decide (a1 < 0) = true := decide_eq_true c4
   clear c4
   (first | rw [c4b0] | (simp only [i64_w]; rw [c4b0]) | skip)
   have H' := Ad.mk H
   clear H
   go_wp2
   go_meet
   case rel => exact ⟨_, (true), (by first | rfl | (simp; done) | (simp [*]; done)), H', ⟨by first | omega | exact Nat.le_refl _⟩, by repeat (first | exact Drawn0.refl _ | apply Drawn0.step)⟩
  ·rw [if_neg c4] at H
   have c4b0 : decide (a1 < 0) = false := decide_eq_false c4
   clear c4
   (first | rw [c4b0] | (simp only [i64_w]; rw [c4b0]) | skip)
   have H' := Ad.mk H
   clear H
   go_wp2
   go_meet
   case rel => exact ⟨_, (decide (a1 > (l0.length : Int))), (by first | rfl | (simp; done) | (simp [*]; done)), H', ⟨by first | omega | exact Nat.le_refl _⟩, by repeat (first | exact Drawn0.refl _ | apply Drawn0.step)⟩
 case rest =>
  clear HC3
  try clear c1
  try clear p2
  try clear c4
  try clear c4b0
  obtain ⟨kq, x18_2, rfl, HA, HJ2, ⟨mc2, rfl⟩⟩ := hcut
  cases kq with
  | zero => exact absurd HA.out (by simp [r02_Get.j0])
  | succ kj2 =>
   have H := HA.out
   clear HA
   simp only [r02_Get.j0] at H
   by_cases c5 : x18_2 = true
   ·subst c5
    have H1 : (some (0, 0, 11)) = some (r1, r2, r3) := by rw [if_pos rfl] at H; exact H
    clear H
    have H := H1
    clear H1
    simp only [Option.some.injEq, Prod.mk.injEq] at H
    obtain ⟨rfl, rfl, rfl⟩ := H
    go_wp2
    go_ret3
    exact ⟨by first | rfl | (simp; done) | (simp [*]; done), by repeat (first | exact Drawn0.refl _ | apply Drawn0.step)⟩
   ·replace c5 := Bool.eq_false_iff.mpr c5
    subst c5
    have H1 : (r02_Get.l0 kj2 l0 a1 0 1 0) = some (r1, r2, r3) := by rw [if_neg (show ¬ (false = true) by decide)] at H; exact H
    clear H
    have H := H1
    clear H1
    have H' := Ad.mk H
    clear H
    go_wp2
    go_loopg [7, 8, 9] kj2 (fun kq v7 v8 v9 w' => ∃ (x7_2 : Int) (x8_2 : Int) (x9_2 : Int), v7 = .int .u64 x7_2 ∧ v8 = .int .u64 x8_2 ∧ v9 = .int .i64 x9_2 ∧ Ad (r02_Get.l0 kq l0 a1 x7_2 x8_2 x9_2 = some (r1, r2, r3)) ∧ Ad (kq ≤ kj2) ∧ Drawn0 w w')
    case atStart => exact ⟨(0), (1), (0), (by first | rfl | (simp; done) | (simp [*]; done)), (by first | rfl | (simp; done) | (simp [*]; done)), (by first | rfl | (simp; done) | (simp [*]; done)), H', ⟨Nat.le_refl _⟩, by repeat (first | exact Drawn0.refl _ | apply Drawn0.step)⟩
    case round =>
     clear H'
     try clear c1
     try clear c2
     try clear p2
     try clear c4
     try clear c4b0
     try clear c5
     try clear p2
     obtain ⟨x7_2, x8_2, x9_2, rfl, rfl, rfl, HA, HK2, ⟨m2, rfl⟩⟩ := hrel
     cases gk with
     | zero => exact absurd HA.out (by simp [r02_Get.l0])
     | succ k2 =>
      have H := HA.out
      clear HA
      simp only [r02_Get.l0] at H
      by_cases c6 : x9_2 < 10
      ·rw [if_pos c6] at H
       have c6b0 : decide (x9_2 < 10) = true := decide_eq_true c6
       clear c6
       by_cases c7 : (wrap64 ((l0.length : Int) - a1)) ≤ x9_2
       ·rw [if_pos c7] at H
        have c7b0 : decide ((wrap64 ((l0.length : Int) - a1)) ≤ x9_2) = true := decide_eq_true c7
        clear c7
        simp only [Option.some.injEq, Prod.mk.injEq] at H
        obtain ⟨rfl, rfl, rfl⟩ := H
        go_wp2
        go_ret3
        exact ⟨by first | rfl | (simp; done) | (simp [*]; done), by repeat (first | exact Drawn0.refl _ | apply Drawn0.step)⟩
       ·rw [if_neg c7] at H
        have c7b0 : decide ((wrap64 ((l0.length : Int) - a1)) ≤ x9_2) = false := decide_eq_false c7
        clear c7
        obtain ⟨ji8, hji8⟩ : ∃ j_ : Int, (wrap64 (a1 + x9_2)) = j_ := ⟨_, rfl⟩
        replace H : (if 0 ≤ (ji8) then (if (ji8) < (l0.length : Int) then (if x9_2 = 9 then (if (rd l0 (ji8)) > 1 then (r02_Get.j2 k2 l0 a1 x7_2 x8_2 x9_2 (rd l0 (ji8)) true) else (if x9_2 > 0 then (r02_Get.j2 k2 l0 a1 x7_2 x8_2 x9_2 (rd l0 (ji8)) ((rd l0 (ji8)) == 0)) else (r02_Get.j2 k2 l0 a1 x7_2 x8_2 x9_2 (rd l0 (ji8)) false))) else (if x9_2 > 0 then (r02_Get.j2 k2 l0 a1 x7_2 x8_2 x9_2 (rd l0 (ji8)) ((rd l0 (ji8)) == 0)) else (r02_Get.j2 k2 l0 a1 x7_2 x8_2 x9_2 (rd l0 (ji8)) false))) else (none)) else (none)) = some (r1, r2, r3) := by first | (rw [hji8] at H; exact H) | (simp only [hji8] at H ⊢; exact H)
        have hji8w : (IntKind.i64.wrap (a1 + x9_2)) = ji8 := (i64_w _).trans hji8
        by_cases c9 : 0 ≤ (ji8)
        ·rw [if_pos c9] at H
         have c9b0 : decide (0 ≤ (ji8)) = true := decide_eq_true c9
         clear c9
         by_cases c10 : (ji8) < (l0.length : Int)
         ·rw [if_pos c10] at H
          have c10b0 : decide ((ji8) < (l0.length : Int)) = true := decide_eq_true c10
          clear c10
          have HC11 := Ad.mk H
          clear H
          have p186 : 0 ≤ ((ji8) : Int) := of_decide_eq_true (by first | (with_reducible assumption) | assumption)
          have q186 : (ji8) < (l0.length : Int) := of_decide_eq_true (by first | (with_reducible assumption) | assumption)
          obtain ⟨ad186, e186, hx186_0⟩ := Kd.at_int HR0.out (ji8) p186 q186
          cases e186
          replace p186 := eq_true p186
          replace q186 := eq_true q186
          go_upto_region 11 with (fail)
          go_cut [48] (fun v48 wc => ∃ (kq : Nat) (x48_10 : Bool), v48 = .bool x48_10 ∧ Ad (r02_Get.j2 kq l0 a1 x7_2 x8_2 x9_2 (rd l0 (ji8)) x48_10 = some (r1, r2, r3)) ∧ Ad (kq ≤ k2) ∧ Drawn0 w wc)
          case first =>
           have H := HC11.out
           clear HC11
           by_cases c12 : x9_2 = 9
           ·rw [if_pos c12] at H
            have c12b0 : (x9_2 == 9) = true := beq_iff_eq.mpr c12
            have c12b1 : (x9_2 != 9) = false := bne_eq_false_iff_eq.mpr c12
            clear c12
            (first | rw [c12b0] | (simp only [i64_w]; rw [c12b0]) | skip)
            by_cases c13 : (rd l0 (ji8)) > 1
            ·rw [if_pos c13] at H
             have c13b0 : decide (1 < (rd l0 (ji8))) = true := decide_eq_true c13
             clear c13
             have H' := Ad.mk H
             clear H
             go_wp2
             go_meet
             case rel => exact ⟨_, (true), (by first | rfl | (simp; done) | (simp [*]; done)), H', ⟨by have := HJ2.out; have := HK2.out; first | omega | exact Nat.le_refl _⟩, by repeat (first | exact Drawn0.refl _ | apply Drawn0.step)⟩
            ·rw [if_neg c13] at H
             have c13b0 : decide (1 < (rd l0 (ji8))) = false := decide_eq_false c13
             clear c13
             by_cases c14 : x9_2 > 0
             ·rw [if_pos c14] at H
              have c14b0 : decide (0 < x9_2) = true := decide_eq_true c14
              clear c14
              have H' := Ad.mk H
              clear H
              go_wp2
              go_meet
              case rel => exact ⟨_, (((rd l0 (ji8)) == 0)), (by first | rfl | (simp; done) | (simp only [← hji8] <;> (first | rfl | simp)) | (simp [*]; done)), H', ⟨by have := HJ2.out; have := HK2.out; first | omega | exact Nat.le_refl _⟩, by repeat (first | exact Drawn0.refl _ | apply Drawn0.step)⟩
             ·rw [if_neg c14] at H
              have c14b0 : decide (0 < x9_2) = false := decide_eq_false c14
              clear c14
              have H' := Ad.mk H
              clear H
              go_wp2
              go_meet
              case rel => exact ⟨_, (false), (by first | rfl | (simp; done) | (simp [*]; done)), H', ⟨by have := HJ2.out; have := HK2.out; first | omega | exact Nat.le_refl _⟩, by repeat (first | exact Drawn0.refl _ | apply Drawn0.step)⟩
           ·rw [if_neg c12] at H
            have c12b0 : (x9_2 == 9) = false := beq_eq_false_iff_ne.mpr c12
            have c12b1 : (x9_2 != 9) = true := bne_iff_ne.mpr c12
            (first | rw [c12b0] | (simp only [i64_w]; rw [c12b0]) | skip)
            by_cases c15 : x9_2 > 0
            ·rw [if_pos c15] at H
             have c15b0 : decide (0 < x9_2) = true := decide_eq_true c15
             clear c15
             have H' := Ad.mk H
             clear H
             go_wp2
             go_meet
             case rel => exact ⟨_, (((rd l0 (ji8)) == 0)), (by first | rfl | (simp; done) | (simp only [← hji8] <;> (first | rfl | simp)) | (simp [*]; done)), H', ⟨by have := HJ2.out; have := HK2.out; first | omega | exact Nat.le_refl _⟩, by repeat (first | exact Drawn0.refl _ | apply Drawn0.step)⟩
            ·rw [if_neg c15] at H
             have c15b0 : decide (0 < x9_2) = false := decide_eq_false c15
             clear c15
             have H' := Ad.mk H
             clear H
             go_wp2
             go_meet
             case rel => exact ⟨_, (false), (by first | rfl | (simp; done) | (simp [*]; done)), H', ⟨by have := HJ2.out; have := HK2.out; first | omega | exact Nat.le_refl _⟩, by repeat (first | exact Drawn0.refl _ | apply Drawn0.step)⟩
          case rest =>
           clear HC11
           try clear c1
           try clear p1
           try clear q1
           try clear hx1
           try clear c2
           try clear p2
           try clear c4
           try clear c4b0
           try clear c5
           try clear c6
           try clear c6b0
           try clear p6
           try clear c7
           try clear c7b0
           try clear c9
           try clear c9b0
           try clear c10
           try clear c10b0
           try clear c12
           try clear c12b0
           try clear c12b1
           try clear c13
           try clear c13b0
           try clear c14
           try clear c14b0
           try clear c15
           try clear c15b0
           try clear hx186_0
           try clear p186
           try clear p2
           try clear q186
           obtain ⟨kq, x48_10, rfl, HA, HJ10, ⟨mc10, rfl⟩⟩ := hcut
           cases kq with
           | zero => exact absurd HA.out (by simp [r02_Get.j2])
           | succ kj10 =>
            have H := HA.out
            clear HA
            simp only [r02_Get.j2] at H
            by_cases c16 : x48_10 = true
            ·subst c16
             have H1 : (some (0, 0, 13)) = some (r1, r2, r3) := by rw [if_pos rfl] at H; exact H
             clear H
             have H := H1
             clear H1
             simp only [Option.some.injEq, Prod.mk.injEq] at H
             obtain ⟨rfl, rfl, rfl⟩ := H
             go_wp2
             go_ret3
             exact ⟨by first | rfl | (simp; done) | (simp only [← hji8] <;> (first | rfl | simp)) | (simp [*]; done), by repeat (first | exact Drawn0.refl _ | apply Drawn0.step)⟩
            ·replace c16 := Bool.eq_false_iff.mpr c16
             subst c16
             have H1 : (if (rd l0 (ji8)) < 128 then (some (IntKind.u64.wrap (x7_2 + (IntKind.u64.wrap ((IntKind.u64.wrap (Int.tmod (rd l0 (ji8)) 128)) * x8_2))), wrap64 ((wrap64 (a1 + x9_2)) + 1), 0)) else (r02_Get.l0 kj10 l0 a1 (IntKind.u64.wrap (x7_2 + (IntKind.u64.wrap ((IntKind.u64.wrap (Int.tmod (rd l0 (ji8)) 128)) * x8_2)))) (IntKind.u64.wrap (x8_2 * 128)) (wrap64 (x9_2 + 1)))) = some (r1, r2, r3) := by rw [if_neg (show ¬ (false = true) by decide)] at H; exact H
             clear H
             have H := H1
             clear H1
             by_cases c17 : (rd l0 (ji8)) < 128
             ·rw [if_pos c17] at H
              have c17b0 : decide ((rd l0 (ji8)) < 128) = true := decide_eq_true c17
              clear c17
              simp only [Option.some.injEq, Prod.mk.injEq] at H
              obtain ⟨rfl, rfl, rfl⟩ := H
              go_wp2
              go_ret3
              exact ⟨by first | rfl | (simp; done) | (simp only [← hji8] <;> (first | rfl | simp)) | (simp [*]; done), by repeat (first | exact Drawn0.refl _ | apply Drawn0.step)⟩
             ·rw [if_neg c17] at H
              have c17b0 : decide ((rd l0 (ji8)) < 128) = false := decide_eq_false c17
              clear c17
              have H' := Ad.mk H
              clear H
              go_wp2
              go_roundg kj10
              case measure => have := HJ2.out; have := HK2.out; have := HJ10.out; omega
              case rel => exact ⟨(IntKind.u64.wrap (x7_2 + (IntKind.u64.wrap ((IntKind.u64.wrap (Int.tmod (rd l0 (ji8)) 128)) * x8_2)))), (IntKind.u64.wrap (x8_2 * 128)), (wrap64 (x9_2 + 1)), (by first | rfl | (simp; done) | (simp only [← hji8] <;> (first | rfl | simp)) | (simp [*]; done)), (by first | rfl | (simp; done) | (simp [*]; done)), (by first | rfl | (simp; done) | (simp [*]; done)), H', ⟨by have := HJ2.out; have := HK2.out; have := HJ10.out; omega⟩, by repeat (first | exact Drawn0.refl _ | apply Drawn0.step)⟩
         ·rw [if_neg c10] at H
          exact absurd H (by simp)
        ·rw [if_neg c9] at H
         exact absurd H (by simp)
      ·rw [if_neg c6] at H
       have c6b0 : decide (x9_2 < 10) = false := decide_eq_false c6
       clear c6
       simp only [Option.some.injEq, Prod.mk.injEq] at H
       obtain ⟨rfl, rfl, rfl⟩ := H
       go_wp2
       go_ret3
       exact ⟨by first | rfl | (simp; done) | (simp [*]; done), by repeat (first | exact Drawn0.refl _ | apply Drawn0.step)⟩
def r02_Unfold.f (a0 : Int) : Option (Int) := if (Int.tmod a0 2) = 0 then (some (wrap64 (IntKind.u64.wrap (Int.tdiv a0 2)))) else (some (wrap64 ((wrap64 (-(wrap64 (IntKind.u64.wrap (Int.tdiv a0 2))))) - 1)))
set_option maxHeartbeats 8000000 in
set_option maxRecDepth 100000 in
theorem r02_Unfold.calls (a0 : Int) (r : Int) (w : World) (h : r02_Unfold.f a0 = some r) :
  Calls Tryz.prog 105 #[.int .u64 a0] w fun e w' => e = .returned (.int .i64 r) ∧ Drawn0 w w' := by
 have H : (if (Int.tmod a0 2) = 0 then (some (wrap64 (IntKind.u64.wrap (Int.tdiv a0 2)))) else (some (wrap64 ((wrap64 (-(wrap64 (IntKind.u64.wrap (Int.tdiv a0 2))))) - 1)))) = some r := h
 clear h
 by_cases c2 : (Int.tmod a0 2) = 0
 ·rw [if_pos c2] at H
  have c2b0 : ((Int.tmod a0 2) == 0) = true := beq_iff_eq.mpr c2
  have c2b1 : ((Int.tmod a0 2) != 0) = false := bne_eq_false_iff_eq.mpr c2
  clear c2
  obtain rfl := Option.some.inj H
  go_enter Tryz.func105, Tryz.ntmps105
  go_wp2
  go_ret
  exact ⟨by first | rfl | (simp; done) | (simp [*]; done), by repeat (first | exact Drawn0.refl _ | apply Drawn0.step)⟩
 ·rw [if_neg c2] at H
  have c2b0 : ((Int.tmod a0 2) == 0) = false := beq_eq_false_iff_ne.mpr c2
  have c2b1 : ((Int.tmod a0 2) != 0) = true := bne_iff_ne.mpr c2
  obtain rfl := Option.some.inj H
  go_enter Tryz.func105, Tryz.ntmps105
  go_wp2
  go_ret
  exact ⟨by first | rfl | (simp; done) | (simp [*]; done), by repeat (first | exact Drawn0.refl _ | apply Drawn0.step)⟩
end Go.Proofs.YthnndjlccepebaaGreatDoor.PHeavy
namespace Go.Proofs.YthnndjlccepebaaGreatDoor.PHeavy
open Go.RowKit Go.Proofs.YthnndjlccepebaaGreatDoorW.PrintWords Go.Proofs.YthnndjlccepebaaGreatDoorW.PrintLast

mutual
def r05_Get.j0 : Nat → List Int → Int → Int → Bool → Option (List Int × Int × Int)
 | 0, _, _, _, _ => none
 | k + 1, x0, x1, x2, x33 => if x33 = true then (some (([] : List Int), 0, 11)) else (r05_Get.l0 k x0 x1 x2 (([] : List Int)) false)
def r05_Get.l0 : Nat → List Int → Int → Int → List Int → Bool → Option (List Int × Int × Int)
 | 0, _, _, _, _, _ => none
 | k + 1, x0, x1, x2, x9, x10 => if (x9.length : Int) < x2 then ((r02_Get.f k x0 x1).bind fun bt190 => (if bt190.2.2 = 0 then (if bt190.1 > 0 then ((r02_Unfold.f bt190.1).bind fun t193 => (if x9.length < 17592186044416 then (r05_Get.l0 k x0 bt190.2.1 x2 (x9 ++ [t193]) false) else (none))) else (if x10 = true then (some (([] : List Int), 0, 13)) else ((r02_Get.f k x0 bt190.2.1).bind fun bt197 => (if bt197.2.2 = 0 then (if bt197.1 > (IntKind.u64.wrap (wrap64 ((wrap64 (x2 - (x9.length : Int))) - 1))) then (some (([] : List Int), 0, 13)) else (r05_Get.l1 k x0 x2 x9 bt197.1 bt197.2.1 0)) else (some (([] : List Int), 0, bt197.2.2)))))) else (some (([] : List Int), 0, bt190.2.2)))) else (some (x9, x1, 0))
def r05_Get.l1 : Nat → List Int → Int → List Int → Int → Int → Int → Option (List Int × Int × Int)
 | 0, _, _, _, _, _, _ => none
 | k + 1, x0, x2, x9, x14, x15, x17 => if x17 ≤ x14 then (if x9.length < 17592186044416 then (r05_Get.l1 k x0 x2 (x9 ++ [0]) x14 x15 (IntKind.u64.wrap (x17 + 1))) else (none)) else (r05_Get.l0 k x0 x15 x2 x9 true)
end
def r05_Get.f (k : Nat) (l0 : List Int) (a1 : Int) (a2 : Int) : Option (List Int × Int × Int) := if a1 < 0 then (r05_Get.j0 k l0 a1 a2 true) else (if a1 > (l0.length : Int) then (r05_Get.j0 k l0 a1 a2 true) else (if a2 < 0 then (r05_Get.j0 k l0 a1 a2 true) else (r05_Get.j0 k l0 a1 a2 (decide (a2 > 1048576)))))
set_option maxHeartbeats 8000000 in
set_option maxRecDepth 100000 in
theorem r05_Get.calls (k : Nat) (A0 : Option Addr) (c0 : Nat) (l0 : List Int) (a1 : Int) (a2 : Int) (r1 : List Int) (r2 : Int) (r3 : Int) (w : World) (hr0 : Kd.C (Kd.int .u8) w A0 l0.length l0) (hc0 : l0.length ≤ c0) (h : r05_Get.f k l0 a1 a2 = some (r1, r2, r3)) :
  Calls Tryz.prog 57 #[.slice A0 l0.length c0, .int .i64 a1, .int .i64 a2] w fun e w' => ∃ v0_ : Value, e = .returned (.tuple #[v0_, .int .i64 r2, .int .i64 r3]) ∧ Kd.R (Kd.int .i64) 2 w' w.heap.size (fun _ => True) v0_ r1 ∧ Below w.heap.size w w' := by
 have HR0 := Ad.mk hr0
 have HC0 := Ad.mk hc0
 clear hr0 hc0
 have HB := Ad.mk (Below.refl w.heap.size w)
 have H : (if a1 < 0 then (r05_Get.j0 k l0 a1 a2 true) else (if a1 > (l0.length : Int) then (r05_Get.j0 k l0 a1 a2 true) else (if a2 < 0 then (r05_Get.j0 k l0 a1 a2 true) else (r05_Get.j0 k l0 a1 a2 (decide (a2 > 1048576)))))) = some (r1, r2, r3) := h
 clear h
 have HC4 := Ad.mk H
 clear H
 go_enter Tryz.func57, Tryz.ntmps57
 go_upto_region 1 with (fail)
 go_cut [33] (fun v33 wc => ∃ (kq : Nat) (x33_3 : Bool), v33 = .bool x33_3 ∧ Ad (r05_Get.j0 kq l0 a1 a2 x33_3 = some (r1, r2, r3)) ∧ Ad (kq ≤ k) ∧ Ad (Below w.heap.size w wc))
 case first =>
  have H := HC4.out
  clear HC4
  by_cases c5 : a1 < 0
  ·rw [if_pos c5] at H
   have c5b0 : decide (a1 < 0) = true := decide_eq_true c5
   clear c5
   (first | rw [c5b0] | (simp only [i64_w]; rw [c5b0]) | skip)
   have H' := Ad.mk H
   clear H
   go_wp2
   go_meet
   case rel => exact ⟨_, (true), (by first | rfl | (simp; done) | (simp [*]; done)), H', ⟨by first | omega | exact Nat.le_refl _⟩, ⟨by repeat (first | (with_reducible first | exact HB.out | apply bwA | apply bwN | apply bw1) | exact HB.out)⟩⟩
  ·rw [if_neg c5] at H
   have c5b0 : decide (a1 < 0) = false := decide_eq_false c5
   clear c5
   (first | rw [c5b0] | (simp only [i64_w]; rw [c5b0]) | skip)
   by_cases c6 : a1 > (l0.length : Int)
   ·rw [if_pos c6] at H
    have c6b0 : decide ((l0.length : Int) < a1) = true := decide_eq_true c6
    clear c6
    have H' := Ad.mk H
    clear H
    go_wp2
    go_meet
    case rel => exact ⟨_, (true), (by first | rfl | (simp; done) | (simp [*]; done)), H', ⟨by first | omega | exact Nat.le_refl _⟩, ⟨by repeat (first | (with_reducible first | exact HB.out | apply bwA | apply bwN | apply bw1) | exact HB.out)⟩⟩
   ·rw [if_neg c6] at H
    have c6b0 : decide ((l0.length : Int) < a1) = false := decide_eq_false c6
    clear c6
    by_cases c7 : a2 < 0
    ·rw [if_pos c7] at H
     have c7b0 : decide (a2 < 0) = true := decide_eq_true c7
     clear c7
     have H' := Ad.mk H
     clear H
     go_wp2
     go_meet
     case rel => exact ⟨_, (true), (by first | rfl | (simp; done) | (simp [*]; done)), H', ⟨by first | omega | exact Nat.le_refl _⟩, ⟨by repeat (first | (with_reducible first | exact HB.out | apply bwA | apply bwN | apply bw1) | exact HB.out)⟩⟩
    ·rw [if_neg c7] at H
     have c7b0 : decide (a2 < 0) = false := decide_eq_false c7
     clear c7
     have H' := Ad.mk H
     clear H
     go_wp2
     go_meet
     case rel => exact ⟨_, (decide (a2 > 1048576)), (by first | rfl | (simp; done) | (simp [*]; done)), H', ⟨by first | omega | exact Nat.le_refl _⟩, ⟨by repeat (first | (with_reducible first | exact HB.out | apply bwA | apply bwN | apply bw1) | exact HB.out)⟩⟩
 case rest =>
  clear HC4
  try clear p2
  try clear c5
  try clear c5b0
  try clear c6
  try clear c6b0
  try clear c7
  try clear c7b0
  obtain ⟨kq, x33_3, rfl, HA, HJ3, HB⟩ := hcut
  cases kq with
  | zero => exact absurd HA.out (by simp [r05_Get.j0])
  | succ kj3 =>
   have H := HA.out
   clear HA
   simp only [r05_Get.j0] at H
   by_cases c8 : x33_3 = true
   ·subst c8
    have H1 : (some (([] : List Int), 0, 11)) = some (r1, r2, r3) := by rw [if_pos rfl] at H; exact H
    clear H
    have H := H1
    clear H1
    simp only [Option.some.injEq, Prod.mk.injEq] at H
    obtain ⟨rfl, rfl, rfl⟩ := H
    go_wp2
    go_ret3
    exact ⟨_, by first | rfl | (simp [errW_none, errW_some] <;> rfl) | (simp [*, errW_none, errW_some] <;> rfl), by first | exact Kd.R_nil _ _ _ _ _ | exact Kd.N_nil _ _ _ _ _ | exact Kd.V_nil _ _ _ _ _ | exact Kd.Q_nil _ _ _ _ _ | exact Kd.S_nil _ _ _ _ _, by repeat (first | (with_reducible first | exact HB.out | apply bwA | apply bwN | apply bw1) | exact HB.out)⟩
   ·replace c8 := Bool.eq_false_iff.mpr c8
    subst c8
    have H1 : (r05_Get.l0 kj3 l0 a1 a2 (([] : List Int)) false) = some (r1, r2, r3) := by rw [if_neg (show ¬ (false = true) by decide)] at H; exact H
    clear H
    have H := H1
    clear H1
    obtain ⟨y187, hy187⟩ : ∃ y_ : List Int, y_ = (([] : List Int)) := ⟨_, rfl⟩
    replace H : (r05_Get.l0 kj3 l0 a1 a2 y187 false) = some (r1, r2, r3) := by first | (rw [hy187]; with_reducible exact H) | (have H2_ := (Option.bind_some _ _).symm.trans H; rw [hy187]; with_reducible exact H2_) | (have H2_ := (Option.bind_some _ _).symm.trans H; with_reducible exact H2_) | with_reducible exact H | (rw [hy187]; exact H) | exact H
    have Ny187 := Ad.mk hy187
    clear hy187
    have H' := Ad.mk H
    clear H
    go_wp2_with (first | ((with_reducible refine gate_dst (N := 34) rfl ?_); (try (refine gate_guard (by rfl) ?_; dsimp only)); refine Kd.R_lit (Kd.int .i64) _ 2 ?hg (N := 34) ?hd (xs := ([] : List Int)) (inner := []) (ok := fun _ => True) (okp := fun _ => True) ?hr ?hp (fun _ hk => hk) trivial (Below.refl _ _) (Nat.le_refl _) (by simp) ?_; (case hd => rfl); (case hg => rfl); (case hr => first | (go_simp; done) | (go_simp; rfl)); (case hp => exact (Reps.none _ _)); intro v188 w9 ho10 hb hg_ hnew_; clear hg_ hnew_; (first | rw [← Ny187.out] at ho10 | (simp only [Int.reduceToNat] at ho10; rw [← Ny187.out] at ho10)); have n0_ := Ad.mk (Kd.R_lower ho10 (below_size (by repeat (first | (with_reducible first | exact HB.out | apply bwA | apply bwN | apply bw1) | exact HB.out)))); have n1_ := Ad.mk (below_step (by repeat (first | (with_reducible first | exact HB.out | apply bwA | apply bwN | apply bw1) | exact HB.out)) hb); clear HB; have HO189 := n0_; have HB := n1_; clear n0_ n1_; clear hb ho10))
    go_loopg [1, 9, 10] kj3 (fun kq v1 v9 v10 w' => ∃ (x1_2 : Int) (x9_2 : List Int) (x10_2 : Bool), v1 = .int .i64 x1_2 ∧ v10 = .bool x10_2 ∧ Ad (r05_Get.l0 kq l0 x1_2 a2 x9_2 x10_2 = some (r1, r2, r3)) ∧ Ad (kq ≤ kj3) ∧ Ad (Kd.R (Kd.int .i64) 2 w' w.heap.size (fun _ => True) v9 x9_2) ∧ Ad (Below w.heap.size w w'))
    case atStart => exact ⟨(a1), (y187), (false), (by first | rfl | (simp; done) | (simp [*]; done)), (by first | rfl | (simp; done) | (simp [*]; done)), H', ⟨Nat.le_refl _⟩, ⟨by (with_reducible repeat (first | apply Kd.R_alloc | apply Kd.R_drewN | apply Kd.R_drew)); exact HO189.out⟩, ⟨by repeat (first | (with_reducible first | exact HB.out | apply bwA | apply bwN | apply bw1) | exact HB.out)⟩⟩
    case round =>
     clear H'
     try clear p2
     try clear c5
     try clear c5b0
     try clear c6
     try clear c6b0
     try clear c7
     try clear c7b0
     try clear c8
     try clear p2
     obtain ⟨x1_2, x9_2, x10_2, rfl, rfl, HA, HK2, HO_9, HB⟩ := hrel
     cases gk with
     | zero => exact absurd HA.out (by simp [r05_Get.l0])
     | succ k2 =>
      have H := HA.out
      clear HA
      simp only [r05_Get.l0] at H
      by_cases c11 : (x9_2.length : Int) < a2
      ·rw [if_pos c11] at H
       have c11b0 : decide ((x9_2.length : Int) < a2) = true := decide_eq_true c11
       clear c11
       replace H := Option.bind_eq_some_iff.mp H
       obtain ⟨⟨t190, t191, t192⟩, A120, H⟩ := H
       replace H : (if t192 = 0 then (if t190 > 0 then ((r02_Unfold.f t190).bind fun t193 => (if x9_2.length < 17592186044416 then (r05_Get.l0 k2 l0 t191 a2 (x9_2 ++ [t193]) false) else (none))) else (if x10_2 = true then (some (([] : List Int), 0, 13)) else ((r02_Get.f k2 l0 t191).bind fun bt197 => (if bt197.2.2 = 0 then (if bt197.1 > (IntKind.u64.wrap (wrap64 ((wrap64 (a2 - (x9_2.length : Int))) - 1))) then (some (([] : List Int), 0, 13)) else (r05_Get.l1 k2 l0 a2 x9_2 bt197.1 bt197.2.1 0)) else (some (([] : List Int), 0, bt197.2.2)))))) else (some (([] : List Int), 0, t192))) = some (r1, r2, r3) := H
       have A12 := Ad.mk A120
       clear A120
       by_cases c13 : t192 = 0
       ·rw [if_pos c13] at H
        have c13b0 : (t192 == 0) = true := beq_iff_eq.mpr c13
        have c13b1 : (t192 != 0) = false := bne_eq_false_iff_eq.mpr c13
        clear c13
        by_cases c14 : t190 > 0
        ·rw [if_pos c14] at H
         have c14b0 : decide (0 < t190) = true := decide_eq_true c14
         clear c14
         replace H := Option.bind_eq_some_iff.mp H
         obtain ⟨t193, A150, H⟩ := H
         replace H : (if x9_2.length < 17592186044416 then (r05_Get.l0 k2 l0 t191 a2 (x9_2 ++ [t193]) false) else (none)) = some (r1, r2, r3) := H
         have A15 := Ad.mk A150
         clear A150
         by_cases c16 : x9_2.length < 17592186044416
         ·rw [if_pos c16] at H
          have LMc16 := Ad.mk c16
          clear c16
          obtain ⟨y194, hy194⟩ : ∃ y_ : List Int, y_ = (x9_2 ++ [t193]) := ⟨_, rfl⟩
          replace H : (r05_Get.l0 k2 l0 t191 a2 y194 false) = some (r1, r2, r3) := by first | (rw [hy194]; with_reducible exact H) | (have H2_ := (Option.bind_some _ _).symm.trans H; rw [hy194]; with_reducible exact H2_) | (have H2_ := (Option.bind_some _ _).symm.trans H; with_reducible exact H2_) | with_reducible exact H | (rw [hy194]; exact H) | exact H
          have Ny194 := Ad.mk hy194
          clear hy194
          have H' := Ad.mk H
          clear H
          obtain ⟨Ao17, co17, eo17⟩ := Kd.R_slice HO_9.out
          subst eo17
          go_wp2_with (first | ((with_reducible refine gate_callee (f := 104) rfl ?_); refine goesL_ (some 42) rfl rfl Tryz.func104 (by kernel_rfl) rfl #[.slice A0 l0.length c0, .int .i64 x1_2] rfl (by (try simp only [List.map_toArray, List.map_cons, List.map_nil]); first | done | rfl | (simp only [List.length_drop, List.length_take]; rfl)) ?_; (with_reducible refine (r02_Get.calls k2 _ _ l0 x1_2 t190 t191 t192 _ ?side1 ?side2 A12.out).mono ?_); (case side1 => repeat (first | exact (Kd.C_below HR0.out HB.out) | (with_reducible refine Kd.C_alloc ?_ _) | (with_reducible refine Kd.C_drewN ?_ _) | (with_reducible refine Kd.C_drew ?_))); (case side2 => exact HC0.out); rintro e w' ⟨rfl, ⟨nd, rfl⟩⟩; refine ⟨_, rfl, ?_⟩) | ((with_reducible refine gate_callee (f := 105) rfl ?_); refine goesL_ (some 53) rfl rfl Tryz.func105 (by kernel_rfl) rfl #[.int .u64 t190] rfl (by (try simp only [List.map_toArray, List.map_cons, List.map_nil]); first | done | rfl | (simp only [List.length_drop, List.length_take]; rfl)) ?_; (with_reducible refine (r02_Unfold.calls t190 t193 _ A15.out).mono ?_); rintro e w' ⟨rfl, ⟨nd, rfl⟩⟩; refine ⟨_, rfl, ?_⟩) | ((with_reducible refine gate_builtin (b := .append) (xs := #[.tmp 51, .tmp 54]) rfl ?_); (try (refine gate_guard (by rfl) ?_; dsimp only)); at_builtin; refine Kd.R_append (Kd.int .i64) (w0 := w) w.heap.size rfl (.tmp 51) (.tmp 54) 26 2 (.int .i64 0) 8 rfl Tryz.underlying26 info2 rfl (by decide) (by omega) (.slice Ao17 x9_2.length co17) x9_2 t193 [.int .i64 t193] (fun _ => True) (fun _ => False) rfl rfl ?aP (fun _ hk => hk.elim) ?aF ?aO ?aB ?aS ?aL ?_; (case aP => exact rfl); (case aB => exact (by repeat (first | (with_reducible first | exact HB.out | apply bwA | apply bwN | apply bw1) | exact HB.out))); (case aF => exact (fun _ _ => trivial)); (case aO => exact (by (with_reducible repeat (first | apply Kd.R_alloc | apply Kd.R_drewN | apply Kd.R_drew)); exact HO_9.out)); (case aS => exact (below_size (by repeat (first | (with_reducible first | exact HB.out | apply bwA | apply bwN | apply bw1) | exact HB.out)))); (case aL => have := LMc16.out; omega); intro v195 w18 ho hb hg hat; rw [← Ny194.out] at ho; have n0_ := Ad.mk (hb); have n1_ := Ad.mk (ho); clear HB; clear HO_9; have HB := n0_; have HO196 := n1_; clear n0_ n1_; clear ho hb hg hat))
          go_roundg k2
          case measure => have := HJ3.out; have := HK2.out; omega
          case rel => exact ⟨(t191), (y194), (false), (by first | rfl | (simp; done) | (simp [*]; done)), (by first | rfl | (simp; done) | (simp [*]; done)), H', ⟨by have := HJ3.out; have := HK2.out; omega⟩, ⟨by (with_reducible repeat (first | apply Kd.R_alloc | apply Kd.R_drewN | apply Kd.R_drew)); exact HO196.out⟩, ⟨by repeat (first | (with_reducible first | exact HB.out | apply bwA | apply bwN | apply bw1) | exact HB.out)⟩⟩
         ·rw [if_neg c16] at H
          exact absurd H (by simp)
        ·rw [if_neg c14] at H
         have c14b0 : decide (0 < t190) = false := decide_eq_false c14
         clear c14
         by_cases c19 : x10_2 = true
         ·subst c19
          have H1 : (some (([] : List Int), 0, 13)) = some (r1, r2, r3) := by rw [if_pos rfl] at H; exact H
          clear H
          have H := H1
          clear H1
          simp only [Option.some.injEq, Prod.mk.injEq] at H
          obtain ⟨rfl, rfl, rfl⟩ := H
          obtain ⟨Ao20, co20, eo20⟩ := Kd.R_slice HO_9.out
          subst eo20
          go_wp2_with (first | ((with_reducible refine gate_callee (f := 104) rfl ?_); refine goesL_ (some 42) rfl rfl Tryz.func104 (by kernel_rfl) rfl #[.slice A0 l0.length c0, .int .i64 x1_2] rfl (by (try simp only [List.map_toArray, List.map_cons, List.map_nil]); first | done | rfl | (simp only [List.length_drop, List.length_take]; rfl)) ?_; (with_reducible refine (r02_Get.calls k2 _ _ l0 x1_2 t190 t191 t192 _ ?side1 ?side2 A12.out).mono ?_); (case side1 => repeat (first | exact (Kd.C_below HR0.out HB.out) | (with_reducible refine Kd.C_alloc ?_ _) | (with_reducible refine Kd.C_drewN ?_ _) | (with_reducible refine Kd.C_drew ?_))); (case side2 => exact HC0.out); rintro e w' ⟨rfl, ⟨nd, rfl⟩⟩; refine ⟨_, rfl, ?_⟩))
          go_ret3
          exact ⟨_, by first | rfl | (simp [errW_none, errW_some] <;> rfl) | (simp [*, errW_none, errW_some] <;> rfl), by first | exact Kd.R_nil _ _ _ _ _ | exact Kd.N_nil _ _ _ _ _ | exact Kd.V_nil _ _ _ _ _ | exact Kd.Q_nil _ _ _ _ _ | exact Kd.S_nil _ _ _ _ _, by repeat (first | (with_reducible first | exact HB.out | apply bwA | apply bwN | apply bw1) | exact HB.out)⟩
         ·replace c19 := Bool.eq_false_iff.mpr c19
          subst c19
          have H1 : ((r02_Get.f k2 l0 t191).bind fun bt197 => (if bt197.2.2 = 0 then (if bt197.1 > (IntKind.u64.wrap (wrap64 ((wrap64 (a2 - (x9_2.length : Int))) - 1))) then (some (([] : List Int), 0, 13)) else (r05_Get.l1 k2 l0 a2 x9_2 bt197.1 bt197.2.1 0)) else (some (([] : List Int), 0, bt197.2.2)))) = some (r1, r2, r3) := by rw [if_neg (show ¬ (false = true) by decide)] at H; exact H
          clear H
          have H := H1
          clear H1
          replace H := Option.bind_eq_some_iff.mp H
          obtain ⟨⟨t197, t198, t199⟩, A210, H⟩ := H
          replace H : (if t199 = 0 then (if t197 > (IntKind.u64.wrap (wrap64 ((wrap64 (a2 - (x9_2.length : Int))) - 1))) then (some (([] : List Int), 0, 13)) else (r05_Get.l1 k2 l0 a2 x9_2 t197 t198 0)) else (some (([] : List Int), 0, t199))) = some (r1, r2, r3) := H
          have A21 := Ad.mk A210
          clear A210
          by_cases c22 : t199 = 0
          ·rw [if_pos c22] at H
           have c22b0 : (t199 == 0) = true := beq_iff_eq.mpr c22
           have c22b1 : (t199 != 0) = false := bne_eq_false_iff_eq.mpr c22
           clear c22
           by_cases c23 : t197 > (IntKind.u64.wrap (wrap64 ((wrap64 (a2 - (x9_2.length : Int))) - 1)))
           ·rw [if_pos c23] at H
            have c23b0 : decide ((IntKind.u64.wrap (wrap64 ((wrap64 (a2 - (x9_2.length : Int))) - 1))) < t197) = true := decide_eq_true c23
            clear c23
            simp only [Option.some.injEq, Prod.mk.injEq] at H
            obtain ⟨rfl, rfl, rfl⟩ := H
            obtain ⟨Ao24, co24, eo24⟩ := Kd.R_slice HO_9.out
            subst eo24
            go_wp2_with (first | ((with_reducible refine gate_callee (f := 104) rfl ?_); refine goesL_ (some 42) rfl rfl Tryz.func104 (by kernel_rfl) rfl #[.slice A0 l0.length c0, .int .i64 x1_2] rfl (by (try simp only [List.map_toArray, List.map_cons, List.map_nil]); first | done | rfl | (simp only [List.length_drop, List.length_take]; rfl)) ?_; (with_reducible refine (r02_Get.calls k2 _ _ l0 x1_2 t190 t191 t192 _ ?side1 ?side2 A12.out).mono ?_); (case side1 => repeat (first | exact (Kd.C_below HR0.out HB.out) | (with_reducible refine Kd.C_alloc ?_ _) | (with_reducible refine Kd.C_drewN ?_ _) | (with_reducible refine Kd.C_drew ?_))); (case side2 => exact HC0.out); rintro e w' ⟨rfl, ⟨nd, rfl⟩⟩; refine ⟨_, rfl, ?_⟩) | ((with_reducible refine gate_callee (f := 104) rfl ?_); refine goesL_ (some 61) rfl rfl Tryz.func104 (by kernel_rfl) rfl #[.slice A0 l0.length c0, .int .i64 t191] rfl (by (try simp only [List.map_toArray, List.map_cons, List.map_nil]); first | done | rfl | (simp only [List.length_drop, List.length_take]; rfl)) ?_; (with_reducible refine (r02_Get.calls k2 _ _ l0 t191 t197 t198 t199 _ ?side1 ?side2 A21.out).mono ?_); (case side1 => repeat (first | exact (Kd.C_below HR0.out (by repeat (first | (with_reducible first | exact HB.out | apply bwA | apply bwN | apply bw1) | exact HB.out))) | (with_reducible refine Kd.C_alloc ?_ _) | (with_reducible refine Kd.C_drewN ?_ _) | (with_reducible refine Kd.C_drew ?_))); (case side2 => exact HC0.out); rintro e w' ⟨rfl, ⟨nd, rfl⟩⟩; refine ⟨_, rfl, ?_⟩))
            go_ret3
            exact ⟨_, by first | rfl | (simp [errW_none, errW_some] <;> rfl) | (simp [*, errW_none, errW_some] <;> rfl), by first | exact Kd.R_nil _ _ _ _ _ | exact Kd.N_nil _ _ _ _ _ | exact Kd.V_nil _ _ _ _ _ | exact Kd.Q_nil _ _ _ _ _ | exact Kd.S_nil _ _ _ _ _, by repeat (first | (with_reducible first | exact HB.out | apply bwA | apply bwN | apply bw1) | exact HB.out)⟩
           ·rw [if_neg c23] at H
            have c23b0 : decide ((IntKind.u64.wrap (wrap64 ((wrap64 (a2 - (x9_2.length : Int))) - 1))) < t197) = false := decide_eq_false c23
            clear c23
            have H' := Ad.mk H
            clear H
            obtain ⟨Ao25, co25, eo25⟩ := Kd.R_slice HO_9.out
            subst eo25
            go_wp2_with (first | ((with_reducible refine gate_callee (f := 104) rfl ?_); refine goesL_ (some 42) rfl rfl Tryz.func104 (by kernel_rfl) rfl #[.slice A0 l0.length c0, .int .i64 x1_2] rfl (by (try simp only [List.map_toArray, List.map_cons, List.map_nil]); first | done | rfl | (simp only [List.length_drop, List.length_take]; rfl)) ?_; (with_reducible refine (r02_Get.calls k2 _ _ l0 x1_2 t190 t191 t192 _ ?side1 ?side2 A12.out).mono ?_); (case side1 => repeat (first | exact (Kd.C_below HR0.out HB.out) | (with_reducible refine Kd.C_alloc ?_ _) | (with_reducible refine Kd.C_drewN ?_ _) | (with_reducible refine Kd.C_drew ?_))); (case side2 => exact HC0.out); rintro e w' ⟨rfl, ⟨nd, rfl⟩⟩; refine ⟨_, rfl, ?_⟩) | ((with_reducible refine gate_callee (f := 104) rfl ?_); refine goesL_ (some 61) rfl rfl Tryz.func104 (by kernel_rfl) rfl #[.slice A0 l0.length c0, .int .i64 t191] rfl (by (try simp only [List.map_toArray, List.map_cons, List.map_nil]); first | done | rfl | (simp only [List.length_drop, List.length_take]; rfl)) ?_; (with_reducible refine (r02_Get.calls k2 _ _ l0 t191 t197 t198 t199 _ ?side1 ?side2 A21.out).mono ?_); (case side1 => repeat (first | exact (Kd.C_below HR0.out (by repeat (first | (with_reducible first | exact HB.out | apply bwA | apply bwN | apply bw1) | exact HB.out))) | (with_reducible refine Kd.C_alloc ?_ _) | (with_reducible refine Kd.C_drewN ?_ _) | (with_reducible refine Kd.C_drew ?_))); (case side2 => exact HC0.out); rintro e w' ⟨rfl, ⟨nd, rfl⟩⟩; refine ⟨_, rfl, ?_⟩))
            go_loopg [9, 17] k2 (fun kq v9 v17 w' => ∃ (x9_3 : List Int) (x17_3 : Int), v17 = .int .u64 x17_3 ∧ Ad (r05_Get.l1 kq l0 a2 x9_3 t197 t198 x17_3 = some (r1, r2, r3)) ∧ Ad (kq ≤ k2) ∧ Ad (Kd.R (Kd.int .i64) 2 w' w.heap.size (fun _ => True) v9 x9_3) ∧ Ad (Below w.heap.size w w'))
            case atStart => exact ⟨(x9_2), (0), (by first | rfl | (simp; done) | (simp [*]; done)), H', ⟨Nat.le_refl _⟩, ⟨by (with_reducible repeat (first | apply Kd.R_alloc | apply Kd.R_drewN | apply Kd.R_drew)); exact HO_9.out⟩, ⟨by repeat (first | (with_reducible first | exact HB.out | apply bwA | apply bwN | apply bw1) | exact HB.out)⟩⟩
            case round =>
             clear H'
             try clear c1
             try clear c2
             try clear p2
             try clear c5
             try clear c5b0
             try clear c6
             try clear c6b0
             try clear p6
             try clear c7
             try clear c7b0
             try clear c8
             try clear c10
             try clear c11
             try clear c11b0
             try clear c13
             try clear c13b0
             try clear c13b1
             try clear c14
             try clear c14b0
             try clear c16
             try clear c19
             try clear c22
             try clear c22b0
             try clear c22b1
             try clear c23
             try clear c23b0
             try clear p2
             obtain ⟨x9_3, x17_3, rfl, HA, HK3, HO_9, HB⟩ := hrel
             cases gk with
             | zero => exact absurd HA.out (by simp [r05_Get.l1])
             | succ k3 =>
              have H := HA.out
              clear HA
              simp only [r05_Get.l1] at H
              by_cases c26 : x17_3 ≤ t197
              ·rw [if_pos c26] at H
               have c26b0 : decide (x17_3 ≤ t197) = true := decide_eq_true c26
               clear c26
               by_cases c27 : x9_3.length < 17592186044416
               ·rw [if_pos c27] at H
                have LMc27 := Ad.mk c27
                clear c27
                obtain ⟨y200, hy200⟩ : ∃ y_ : List Int, y_ = (x9_3 ++ [0]) := ⟨_, rfl⟩
                replace H : (r05_Get.l1 k3 l0 a2 y200 t197 t198 (IntKind.u64.wrap (x17_3 + 1))) = some (r1, r2, r3) := by first | (rw [hy200]; with_reducible exact H) | (have H2_ := (Option.bind_some _ _).symm.trans H; rw [hy200]; with_reducible exact H2_) | (have H2_ := (Option.bind_some _ _).symm.trans H; with_reducible exact H2_) | with_reducible exact H | (rw [hy200]; exact H) | exact H
                have Ny200 := Ad.mk hy200
                clear hy200
                have H' := Ad.mk H
                clear H
                go_wp2_with (first | ((with_reducible refine gate_builtin (b := .append) (xs := #[.tmp 81, .tmp 82]) rfl ?_); (try (refine gate_guard (by rfl) ?_; dsimp only)); at_builtin; refine Kd.R_append (Kd.int .i64) (w0 := w) w.heap.size rfl (.tmp 81) (.tmp 82) 26 2 (.int .i64 0) 8 rfl Tryz.underlying26 info2 rfl (by decide) (by omega) u9 x9_3 0 [.int .i64 0] (fun _ => True) (fun _ => False) rfl rfl ?aP (fun _ hk => hk.elim) ?aF ?aO ?aB ?aS ?aL ?_; (case aP => exact rfl); (case aB => exact (by repeat (first | (with_reducible first | exact HB.out | apply bwA | apply bwN | apply bw1) | exact HB.out))); (case aF => exact (fun _ _ => trivial)); (case aO => exact (by (with_reducible repeat (first | apply Kd.R_alloc | apply Kd.R_drewN | apply Kd.R_drew)); exact HO_9.out)); (case aS => exact (below_size (by repeat (first | (with_reducible first | exact HB.out | apply bwA | apply bwN | apply bw1) | exact HB.out)))); (case aL => have := LMc27.out; omega); intro v201 w28 ho hb hg hat; rw [← Ny200.out] at ho; have n0_ := Ad.mk (hb); have n1_ := Ad.mk (ho); clear HB; clear HO_9; have HB := n0_; have HO202 := n1_; clear n0_ n1_; clear ho hb hg hat))
                go_roundg k3
                case measure => have := HJ3.out; have := HK2.out; have := HK3.out; omega
                case rel => exact ⟨(y200), (IntKind.u64.wrap (x17_3 + 1)), (by first | rfl | (simp; done) | (simp [*]; done)), H', ⟨by have := HJ3.out; have := HK2.out; have := HK3.out; omega⟩, ⟨by (with_reducible repeat (first | apply Kd.R_alloc | apply Kd.R_drewN | apply Kd.R_drew)); exact HO202.out⟩, ⟨by repeat (first | (with_reducible first | exact HB.out | apply bwA | apply bwN | apply bw1) | exact HB.out)⟩⟩
               ·rw [if_neg c27] at H
                exact absurd H (by simp)
              ·rw [if_neg c26] at H
               have c26b0 : decide (x17_3 ≤ t197) = false := decide_eq_false c26
               clear c26
               have H' := Ad.mk H
               clear H
               go_wp2
               go_roundg k3
               case measure => have := HJ3.out; have := HK2.out; have := HK3.out; omega
               case rel => exact ⟨(t198), (x9_3), (true), (by first | rfl | (simp; done) | (simp [*]; done)), (by first | rfl | (simp; done) | (simp [*]; done)), H', ⟨by have := HJ3.out; have := HK2.out; have := HK3.out; omega⟩, ⟨by (with_reducible repeat (first | apply Kd.R_alloc | apply Kd.R_drewN | apply Kd.R_drew)); exact HO_9.out⟩, ⟨by repeat (first | (with_reducible first | exact HB.out | apply bwA | apply bwN | apply bw1) | exact HB.out)⟩⟩
          ·rw [if_neg c22] at H
           have c22b0 : (t199 == 0) = false := beq_eq_false_iff_ne.mpr c22
           have c22b1 : (t199 != 0) = true := bne_iff_ne.mpr c22
           simp only [Option.some.injEq, Prod.mk.injEq] at H
           obtain ⟨rfl, rfl, rfl⟩ := H
           obtain ⟨Ao29, co29, eo29⟩ := Kd.R_slice HO_9.out
           subst eo29
           go_wp2_with (first | ((with_reducible refine gate_callee (f := 104) rfl ?_); refine goesL_ (some 42) rfl rfl Tryz.func104 (by kernel_rfl) rfl #[.slice A0 l0.length c0, .int .i64 x1_2] rfl (by (try simp only [List.map_toArray, List.map_cons, List.map_nil]); first | done | rfl | (simp only [List.length_drop, List.length_take]; rfl)) ?_; (with_reducible refine (r02_Get.calls k2 _ _ l0 x1_2 t190 t191 t192 _ ?side1 ?side2 A12.out).mono ?_); (case side1 => repeat (first | exact (Kd.C_below HR0.out HB.out) | (with_reducible refine Kd.C_alloc ?_ _) | (with_reducible refine Kd.C_drewN ?_ _) | (with_reducible refine Kd.C_drew ?_))); (case side2 => exact HC0.out); rintro e w' ⟨rfl, ⟨nd, rfl⟩⟩; refine ⟨_, rfl, ?_⟩) | ((with_reducible refine gate_callee (f := 104) rfl ?_); refine goesL_ (some 61) rfl rfl Tryz.func104 (by kernel_rfl) rfl #[.slice A0 l0.length c0, .int .i64 t191] rfl (by (try simp only [List.map_toArray, List.map_cons, List.map_nil]); first | done | rfl | (simp only [List.length_drop, List.length_take]; rfl)) ?_; (with_reducible refine (r02_Get.calls k2 _ _ l0 t191 t197 t198 t199 _ ?side1 ?side2 A21.out).mono ?_); (case side1 => repeat (first | exact (Kd.C_below HR0.out (by repeat (first | (with_reducible first | exact HB.out | apply bwA | apply bwN | apply bw1) | exact HB.out))) | (with_reducible refine Kd.C_alloc ?_ _) | (with_reducible refine Kd.C_drewN ?_ _) | (with_reducible refine Kd.C_drew ?_))); (case side2 => exact HC0.out); rintro e w' ⟨rfl, ⟨nd, rfl⟩⟩; refine ⟨_, rfl, ?_⟩))
           go_ret3
           exact ⟨_, by first | rfl | (simp [errW_none, errW_some] <;> rfl) | (simp [*, errW_none, errW_some] <;> rfl), by first | exact Kd.R_nil _ _ _ _ _ | exact Kd.N_nil _ _ _ _ _ | exact Kd.V_nil _ _ _ _ _ | exact Kd.Q_nil _ _ _ _ _ | exact Kd.S_nil _ _ _ _ _, by repeat (first | (with_reducible first | exact HB.out | apply bwA | apply bwN | apply bw1) | exact HB.out)⟩
       ·rw [if_neg c13] at H
        have c13b0 : (t192 == 0) = false := beq_eq_false_iff_ne.mpr c13
        have c13b1 : (t192 != 0) = true := bne_iff_ne.mpr c13
        simp only [Option.some.injEq, Prod.mk.injEq] at H
        obtain ⟨rfl, rfl, rfl⟩ := H
        obtain ⟨Ao30, co30, eo30⟩ := Kd.R_slice HO_9.out
        subst eo30
        go_wp2_with (first | ((with_reducible refine gate_callee (f := 104) rfl ?_); refine goesL_ (some 42) rfl rfl Tryz.func104 (by kernel_rfl) rfl #[.slice A0 l0.length c0, .int .i64 x1_2] rfl (by (try simp only [List.map_toArray, List.map_cons, List.map_nil]); first | done | rfl | (simp only [List.length_drop, List.length_take]; rfl)) ?_; (with_reducible refine (r02_Get.calls k2 _ _ l0 x1_2 t190 t191 t192 _ ?side1 ?side2 A12.out).mono ?_); (case side1 => repeat (first | exact (Kd.C_below HR0.out HB.out) | (with_reducible refine Kd.C_alloc ?_ _) | (with_reducible refine Kd.C_drewN ?_ _) | (with_reducible refine Kd.C_drew ?_))); (case side2 => exact HC0.out); rintro e w' ⟨rfl, ⟨nd, rfl⟩⟩; refine ⟨_, rfl, ?_⟩))
        go_ret3
        exact ⟨_, by first | rfl | (simp [errW_none, errW_some] <;> rfl) | (simp [*, errW_none, errW_some] <;> rfl), by first | exact Kd.R_nil _ _ _ _ _ | exact Kd.N_nil _ _ _ _ _ | exact Kd.V_nil _ _ _ _ _ | exact Kd.Q_nil _ _ _ _ _ | exact Kd.S_nil _ _ _ _ _, by repeat (first | (with_reducible first | exact HB.out | apply bwA | apply bwN | apply bw1) | exact HB.out)⟩
      ·rw [if_neg c11] at H
       have c11b0 : decide ((x9_2.length : Int) < a2) = false := decide_eq_false c11
       clear c11
       simp only [Option.some.injEq, Prod.mk.injEq] at H
       obtain ⟨rfl, rfl, rfl⟩ := H
       obtain ⟨Ao31, co31, eo31⟩ := Kd.R_slice HO_9.out
       subst eo31
       go_wp2
       go_ret3
       exact ⟨_, by first | rfl | (simp [errW_none, errW_some] <;> rfl) | (simp [*, errW_none, errW_some] <;> rfl), by (with_reducible repeat (first | apply Kd.R_alloc | apply Kd.R_drewN | apply Kd.R_drew)); exact HO_9.out, by repeat (first | (with_reducible first | exact HB.out | apply bwA | apply bwN | apply bw1) | exact HB.out)⟩
def r04_Right.f (a0 : Int) (a1 : Int) (a2 : Int) : Option (Bool) := if a0 = 0 then (if a1 > 0 then (if a2 ≥ 0 then (if a1 = 0 then (none) else (some ((Int.tmod a2 a1) == 0))) else (some false)) else (some false)) else (if a0 = 1 then (if a1 > 0 then (if a2 ≥ 0 then (if a1 = 0 then (none) else (some ((Int.tmod a2 a1) == 0))) else (some false)) else (some false)) else (if a0 = 2 then (if a1 > 0 then (if a2 ≥ 0 then (if a1 = 0 then (none) else (some ((Int.tmod a2 a1) == 0))) else (some false)) else (some false)) else (some false)))
set_option maxHeartbeats 8000000 in
set_option maxRecDepth 100000 in
theorem r04_Right.calls (a0 : Int) (a1 : Int) (a2 : Int) (r : Bool) (w : World) (h : r04_Right.f a0 a1 a2 = some r) :
  Calls Tryz.prog 106 #[.int .i64 a0, .int .i64 a1, .int .i64 a2] w fun e w' => e = .returned (.bool r) ∧ Drawn0 w w' := by
 have H : (if a0 = 0 then (if a1 > 0 then (if a2 ≥ 0 then (if a1 = 0 then (none) else (some ((Int.tmod a2 a1) == 0))) else (some false)) else (some false)) else (if a0 = 1 then (if a1 > 0 then (if a2 ≥ 0 then (if a1 = 0 then (none) else (some ((Int.tmod a2 a1) == 0))) else (some false)) else (some false)) else (if a0 = 2 then (if a1 > 0 then (if a2 ≥ 0 then (if a1 = 0 then (none) else (some ((Int.tmod a2 a1) == 0))) else (some false)) else (some false)) else (some false)))) = some r := h
 clear h
 by_cases c4 : a0 = 0
 ·rw [if_pos c4] at H
  have c4b0 : (a0 == 0) = true := beq_iff_eq.mpr c4
  have c4b1 : (a0 != 0) = false := bne_eq_false_iff_eq.mpr c4
  clear c4
  by_cases c5 : a1 > 0
  ·rw [if_pos c5] at H
   have c5b0 : decide (0 < a1) = true := decide_eq_true c5
   clear c5
   by_cases c6 : a2 ≥ 0
   ·rw [if_pos c6] at H
    have c6b0 : decide (0 ≤ a2) = true := decide_eq_true c6
    clear c6
    by_cases c7 : a1 = 0
    ·rw [if_pos c7] at H
     exact absurd H (by simp)
    ·rw [if_neg c7] at H
     have c7b0 : (a1 == 0) = false := beq_eq_false_iff_ne.mpr c7
     have c7b1 : (a1 != 0) = true := bne_iff_ne.mpr c7
     obtain rfl := Option.some.inj H
     go_enter Tryz.func106, Tryz.ntmps106
     go_wp2
     go_ret
     exact ⟨by first | rfl | (simp; done) | (simp [*]; done), by repeat (first | exact Drawn0.refl _ | apply Drawn0.step)⟩
   ·rw [if_neg c6] at H
    have c6b0 : decide (0 ≤ a2) = false := decide_eq_false c6
    clear c6
    obtain rfl := Option.some.inj H
    go_enter Tryz.func106, Tryz.ntmps106
    go_wp2
    go_ret
    exact ⟨by first | rfl | (simp; done) | (simp [*]; done), by repeat (first | exact Drawn0.refl _ | apply Drawn0.step)⟩
  ·rw [if_neg c5] at H
   have c5b0 : decide (0 < a1) = false := decide_eq_false c5
   clear c5
   obtain rfl := Option.some.inj H
   go_enter Tryz.func106, Tryz.ntmps106
   go_wp2
   go_ret
   exact ⟨by first | rfl | (simp; done) | (simp [*]; done), by repeat (first | exact Drawn0.refl _ | apply Drawn0.step)⟩
 ·rw [if_neg c4] at H
  have c4b0 : (a0 == 0) = false := beq_eq_false_iff_ne.mpr c4
  have c4b1 : (a0 != 0) = true := bne_iff_ne.mpr c4
  by_cases c8 : a0 = 1
  ·rw [if_pos c8] at H
   have c8b0 : (a0 == 1) = true := beq_iff_eq.mpr c8
   have c8b1 : (a0 != 1) = false := bne_eq_false_iff_eq.mpr c8
   clear c8
   by_cases c9 : a1 > 0
   ·rw [if_pos c9] at H
    have c9b0 : decide (0 < a1) = true := decide_eq_true c9
    clear c9
    by_cases c10 : a2 ≥ 0
    ·rw [if_pos c10] at H
     have c10b0 : decide (0 ≤ a2) = true := decide_eq_true c10
     clear c10
     by_cases c11 : a1 = 0
     ·rw [if_pos c11] at H
      exact absurd H (by simp)
     ·rw [if_neg c11] at H
      have c11b0 : (a1 == 0) = false := beq_eq_false_iff_ne.mpr c11
      have c11b1 : (a1 != 0) = true := bne_iff_ne.mpr c11
      obtain rfl := Option.some.inj H
      go_enter Tryz.func106, Tryz.ntmps106
      go_wp2
      go_ret
      exact ⟨by first | rfl | (simp; done) | (simp [*]; done), by repeat (first | exact Drawn0.refl _ | apply Drawn0.step)⟩
    ·rw [if_neg c10] at H
     have c10b0 : decide (0 ≤ a2) = false := decide_eq_false c10
     clear c10
     obtain rfl := Option.some.inj H
     go_enter Tryz.func106, Tryz.ntmps106
     go_wp2
     go_ret
     exact ⟨by first | rfl | (simp; done) | (simp [*]; done), by repeat (first | exact Drawn0.refl _ | apply Drawn0.step)⟩
   ·rw [if_neg c9] at H
    have c9b0 : decide (0 < a1) = false := decide_eq_false c9
    clear c9
    obtain rfl := Option.some.inj H
    go_enter Tryz.func106, Tryz.ntmps106
    go_wp2
    go_ret
    exact ⟨by first | rfl | (simp; done) | (simp [*]; done), by repeat (first | exact Drawn0.refl _ | apply Drawn0.step)⟩
  ·rw [if_neg c8] at H
   have c8b0 : (a0 == 1) = false := beq_eq_false_iff_ne.mpr c8
   have c8b1 : (a0 != 1) = true := bne_iff_ne.mpr c8
   by_cases c12 : a0 = 2
   ·rw [if_pos c12] at H
    have c12b0 : (a0 == 2) = true := beq_iff_eq.mpr c12
    have c12b1 : (a0 != 2) = false := bne_eq_false_iff_eq.mpr c12
    clear c12
    by_cases c13 : a1 > 0
    ·rw [if_pos c13] at H
     have c13b0 : decide (0 < a1) = true := decide_eq_true c13
     clear c13
     by_cases c14 : a2 ≥ 0
     ·rw [if_pos c14] at H
      have c14b0 : decide (0 ≤ a2) = true := decide_eq_true c14
      clear c14
      by_cases c15 : a1 = 0
      ·rw [if_pos c15] at H
       exact absurd H (by simp)
      ·rw [if_neg c15] at H
       have c15b0 : (a1 == 0) = false := beq_eq_false_iff_ne.mpr c15
       have c15b1 : (a1 != 0) = true := bne_iff_ne.mpr c15
       obtain rfl := Option.some.inj H
       go_enter Tryz.func106, Tryz.ntmps106
       go_wp2
       go_ret
       exact ⟨by first | rfl | (simp; done) | (simp [*]; done), by repeat (first | exact Drawn0.refl _ | apply Drawn0.step)⟩
     ·rw [if_neg c14] at H
      have c14b0 : decide (0 ≤ a2) = false := decide_eq_false c14
      clear c14
      obtain rfl := Option.some.inj H
      go_enter Tryz.func106, Tryz.ntmps106
      go_wp2
      go_ret
      exact ⟨by first | rfl | (simp; done) | (simp [*]; done), by repeat (first | exact Drawn0.refl _ | apply Drawn0.step)⟩
    ·rw [if_neg c13] at H
     have c13b0 : decide (0 < a1) = false := decide_eq_false c13
     clear c13
     obtain rfl := Option.some.inj H
     go_enter Tryz.func106, Tryz.ntmps106
     go_wp2
     go_ret
     exact ⟨by first | rfl | (simp; done) | (simp [*]; done), by repeat (first | exact Drawn0.refl _ | apply Drawn0.step)⟩
   ·rw [if_neg c12] at H
    have c12b0 : (a0 == 2) = false := beq_eq_false_iff_ne.mpr c12
    have c12b1 : (a0 != 2) = true := bne_iff_ne.mpr c12
    obtain rfl := Option.some.inj H
    go_enter Tryz.func106, Tryz.ntmps106
    go_wp2
    go_ret
    exact ⟨by first | rfl | (simp; done) | (simp [*]; done), by repeat (first | exact Drawn0.refl _ | apply Drawn0.step)⟩
def r04_at.f (l0 : List Int) (a1 : Int) (a2 : Int) (a3 : Int) : Option (Int) := if 0 ≤ (wrap64 ((wrap64 (a3 * a1)) + a2)) then (if (wrap64 ((wrap64 (a3 * a1)) + a2)) < (l0.length : Int) then (some (rd l0 (wrap64 ((wrap64 (a3 * a1)) + a2)))) else (none)) else (none)
set_option maxHeartbeats 8000000 in
set_option maxRecDepth 100000 in
theorem r04_at.calls (A0 : Option Addr) (c0 : Nat) (l0 : List Int) (a1 : Int) (a2 : Int) (a3 : Int) (r : Int) (w : World) (hr0 : Kd.C (Kd.int .i64) w A0 l0.length l0) (hc0 : l0.length ≤ c0) (h : r04_at.f l0 a1 a2 a3 = some r) :
  Calls Tryz.prog 168 #[.slice A0 l0.length c0, .int .i64 a1, .int .i64 a2, .int .i64 a3] w fun e w' => e = .returned (.int .i64 r) ∧ Drawn0 w w' := by
 have HR0 := Ad.mk hr0
 have HC0 := Ad.mk hc0
 clear hr0 hc0
 have H : (if 0 ≤ (wrap64 ((wrap64 (a3 * a1)) + a2)) then (if (wrap64 ((wrap64 (a3 * a1)) + a2)) < (l0.length : Int) then (some (rd l0 (wrap64 ((wrap64 (a3 * a1)) + a2)))) else (none)) else (none)) = some r := h
 clear h
 obtain ⟨ji5, hji5⟩ : ∃ j_ : Int, (wrap64 ((wrap64 (a3 * a1)) + a2)) = j_ := ⟨_, rfl⟩
 replace H : (if 0 ≤ (ji5) then (if (ji5) < (l0.length : Int) then (some (rd l0 (ji5))) else (none)) else (none)) = some r := by first | (rw [hji5] at H; exact H) | (simp only [hji5] at H ⊢; exact H)
 have hji5w : (IntKind.i64.wrap ((wrap64 (a3 * a1)) + a2)) = ji5 := (i64_w _).trans hji5
 by_cases c6 : 0 ≤ (ji5)
 ·rw [if_pos c6] at H
  have c6b0 : decide (0 ≤ (ji5)) = true := decide_eq_true c6
  clear c6
  by_cases c7 : (ji5) < (l0.length : Int)
  ·rw [if_pos c7] at H
   have c7b0 : decide ((ji5) < (l0.length : Int)) = true := decide_eq_true c7
   clear c7
   obtain rfl := Option.some.inj H
   have p203 : 0 ≤ ((ji5) : Int) := of_decide_eq_true (by first | (with_reducible assumption) | assumption)
   have q203 : (ji5) < (l0.length : Int) := of_decide_eq_true (by first | (with_reducible assumption) | assumption)
   obtain ⟨ad203, e203, hx203_0⟩ := Kd.at_int HR0.out (ji5) p203 q203
   cases e203
   replace p203 := eq_true p203
   replace q203 := eq_true q203
   go_enter Tryz.func168, Tryz.ntmps168
   go_wp2
   go_ret
   exact ⟨by first | rfl | (simp; done) | (simp only [← hji5] <;> (first | rfl | simp)) | (simp [*]; done), by repeat (first | exact Drawn0.refl _ | apply Drawn0.step)⟩
  ·rw [if_neg c7] at H
   exact absurd H (by simp)
 ·rw [if_neg c6] at H
  exact absurd H (by simp)
end Go.Proofs.YthnndjlccepebaaGreatDoor.PHeavy
