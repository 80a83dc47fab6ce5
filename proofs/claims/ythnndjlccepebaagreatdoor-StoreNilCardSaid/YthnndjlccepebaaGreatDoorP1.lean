/- Contracts of the reference functions, first part (after the print). -/
import Derived.Test.YthnndjlccepebaaGreatDoorProg
import Derived.Below
import Derived.Deep.Draws
import Derived.Deep.AppendLies
import Derived.Maps.AppendAt
import Derived.OwnWalk
import Derived.Laws.BytesArg
import Derived.Laws.MakeOwn
import Derived.Laws.OwnMore
import Derived.Deep.OwnRows
import Derived.Tactics
import Derived.Lib.ConvBytes
import Derived.Laws.Slices
import Derived.WalkKit
import Derived.KernelRfl
import Derived.RowKit3
import Derived.Deep.LoopGhost
import Derived.Deep.QuietTactic
import Derived.BigQuiet
import Derived.WideLaws
import Derived.Deep.DeepCutAuto
import Derived.Deep.CutBlock
import Derived.Deep.RegionHeld3
import Derived.Laws.Rows
import Derived.Lib.AppendStr
import Derived.ArgAppend
import Derived.Laws.IdiomCopy
import Derived.OrdersHeld
import Derived.Laws.BitsLemmas
import Derived.RowKit
import Derived.Test.YthnndjlccepebaaGreatDoorW1
import Derived.Laws.StructEq
set_option linter.unusedVariables false
set_option linter.unusedSimpArgs false
namespace Go.Proofs.YthnndjlccepebaaGreatDoor.PHeavy
open Go.RowKit Go.Proofs.YthnndjlccepebaaGreatDoorW.PrintWords Go.Proofs.YthnndjlccepebaaGreatDoorW.PrintLast

theorem info2 : (Tryz.prog.info? 2).map (fun i => (i.zero, i.size, i.bytes)) = some (some (.int .i64 0), 1, 8) := by kernel_rfl
theorem info3 : (Tryz.prog.info? 3).map (fun i => (i.zero, i.size, i.bytes)) = some (some (.int .i64 0), 1, 8) := by kernel_rfl
theorem info5 : (Tryz.prog.info? 5).map (fun i => (i.zero, i.size, i.bytes)) = some (some (.int .u8 0), 1, 1) := by kernel_rfl
theorem info23 : (Tryz.prog.info? 23).map (fun i => (i.zero, i.size, i.bytes)) = some (some (.agg #[(.int .i64 0), (.int .i64 0), (.int .i64 0), (.int .i64 0)]), 4, 32) := by kernel_rfl
theorem info95 : (Tryz.prog.info? 95).map (fun i => (i.zero, i.size, i.bytes)) = some (some (.agg #[(.int .i64 0), (.int .i64 0)]), 2, 16) := by kernel_rfl
structure S23 where
 f0 : Int
 f1 : Int
 f2 : Int
 f3 : Int
def z23 : S23 := ⟨(0 : Int), (0 : Int), (0 : Int), (0 : Int)⟩
def k23 : Kd S23 := Kd.iso (Kd.pair (Kd.int .i64) (Kd.pair (Kd.int .i64) (Kd.pair (Kd.int .i64) (Kd.int .i64)))) (fun x : S23 => (x.f0, x.f1, x.f2, x.f3))
theorem k23_open {w : World} {x : S23} {cs : List Value} (h : k23.K w x cs) : cs = [.int .i64 x.f0, .int .i64 x.f1, .int .i64 x.f2, .int .i64 x.f3] := by
 obtain ⟨_, _, rfl, rfl, ⟨_, _, rfl, rfl, ⟨_, _, rfl, rfl, rfl⟩⟩⟩ := h
 exact rfl
theorem k23_mkM (w : World) (base : Nat) (ok : Nat → Prop) (x : S23)  : k23.M w base ok x [.int .i64 x.f0, .int .i64 x.f1, .int .i64 x.f2, .int .i64 x.f3] := ⟨[.int .i64 x.f0], [.int .i64 x.f1, .int .i64 x.f2, .int .i64 x.f3], rfl, rfl, ⟨[.int .i64 x.f1], [.int .i64 x.f2, .int .i64 x.f3], rfl, rfl, ⟨[.int .i64 x.f2], [.int .i64 x.f3], rfl, rfl, rfl⟩⟩⟩
def rd_T23 (xs : List S23) (i : Int) : S23 := xs.getD i.toNat z23
theorem at_T23 {w : World} {A : Option Addr} {n : Nat} {xs : List S23} (h : Kd.C k23 w A n xs) (i : Int) (h0 : 0 ≤ i) (h1 : i < n) : ∃ ad , A = some ad ∧ w.cell? (ad.add (i.toNat * 4)) = some (.int .i64 (rd_T23 xs i).f0) ∧ w.cell? ⟨(ad.add (i.toNat * 4)).block, (ad.add (i.toNat * 4)).off + 1, none⟩ = some (.int .i64 (rd_T23 xs i).f1) ∧ w.cell? ⟨(ad.add (i.toNat * 4)).block, (ad.add (i.toNat * 4)).off + 2, none⟩ = some (.int .i64 (rd_T23 xs i).f2) ∧ w.cell? ⟨(ad.add (i.toNat * 4)).block, (ad.add (i.toNat * 4)).off + 3, none⟩ = some (.int .i64 (rd_T23 xs i).f3) := by
 obtain ⟨ad, c, e, _, hK, hc0⟩ := Kd.C_get h z23 i h0 h1
 have hc : ∀ j u, c[j]? = some u → w.cell? (ad.add (i.toNat * 4 + j)) = some u := hc0
 obtain rfl := k23_open hK
 exact ⟨ad, e, hc 0 _ rfl, by rw [← add_field _ _ 1 (by omega)]; exact hc 1 _ rfl, by rw [← add_field _ _ 2 (by omega)]; exact hc 2 _ rfl, by rw [← add_field _ _ 3 (by omega)]; exact hc 3 _ rfl⟩
structure S95 where
 f0 : Int
 f1 : Int
def z95 : S95 := ⟨(0 : Int), (0 : Int)⟩
def k95 : Kd S95 := Kd.iso (Kd.pair (Kd.int .i64) (Kd.int .i64)) (fun x : S95 => (x.f0, x.f1))
theorem k95_open {w : World} {x : S95} {cs : List Value} (h : k95.K w x cs) : cs = [.int .i64 x.f0, .int .i64 x.f1] := by
 obtain ⟨_, _, rfl, rfl, rfl⟩ := h
 exact rfl
theorem k95_mkM (w : World) (base : Nat) (ok : Nat → Prop) (x : S95)  : k95.M w base ok x [.int .i64 x.f0, .int .i64 x.f1] := ⟨[.int .i64 x.f0], [.int .i64 x.f1], rfl, rfl, rfl⟩
def rd_T95 (xs : List S95) (i : Int) : S95 := xs.getD i.toNat z95
theorem at_T95 {w : World} {A : Option Addr} {n : Nat} {xs : List S95} (h : Kd.C k95 w A n xs) (i : Int) (h0 : 0 ≤ i) (h1 : i < n) : ∃ ad , A = some ad ∧ w.cell? (ad.add (i.toNat * 2)) = some (.int .i64 (rd_T95 xs i).f0) ∧ w.cell? ⟨(ad.add (i.toNat * 2)).block, (ad.add (i.toNat * 2)).off + 1, none⟩ = some (.int .i64 (rd_T95 xs i).f1) := by
 obtain ⟨ad, c, e, _, hK, hc0⟩ := Kd.C_get h z95 i h0 h1
 have hc : ∀ j u, c[j]? = some u → w.cell? (ad.add (i.toNat * 2 + j)) = some u := hc0
 obtain rfl := k95_open hK
 exact ⟨ad, e, hc 0 _ rfl, by rw [← add_field _ _ 1 (by omega)]; exact hc 1 _ rfl⟩
end Go.Proofs.YthnndjlccepebaaGreatDoor.PHeavy
namespace Go.Proofs.YthnndjlccepebaaGreatDoor.PHeavy
open Go.RowKit Go.Proofs.YthnndjlccepebaaGreatDoorW.PrintWords Go.Proofs.YthnndjlccepebaaGreatDoorW.PrintLast

def r03_Tail.f (a0 : Int) : Option (List Int) := some (([(Int.tmod a0 256) % 256, ((Int.tdiv a0 256) % 4294967296) % 256, ((Int.tdiv a0 65536) % 4294967296) % 256, ((Int.tdiv a0 16777216) % 4294967296) % 256] : List Int))
set_option maxHeartbeats 8000000 in
set_option maxRecDepth 100000 in
theorem r03_Tail.calls (a0 : Int) (r : List Int) (w : World) (h : r03_Tail.f a0 = some r) :
  Calls Tryz.prog 49 #[.int .u32 a0] w fun e w' => ∃ v0_ : Value, e = .returned (v0_) ∧ Kd.R (Kd.int .u8) 5 w' w.heap.size (fun _ => True) v0_ r ∧ Below w.heap.size w w' := by
 have HB := Ad.mk (Below.refl w.heap.size w)
 have H : (some (([(Int.tmod a0 256) % 256, ((Int.tdiv a0 256) % 4294967296) % 256, ((Int.tdiv a0 65536) % 4294967296) % 256, ((Int.tdiv a0 16777216) % 4294967296) % 256] : List Int))) = some r := h
 clear h
 obtain ⟨y101, hy101⟩ : ∃ y_ : List Int, y_ = (([(Int.tmod a0 256) % 256, ((Int.tdiv a0 256) % 4294967296) % 256, ((Int.tdiv a0 65536) % 4294967296) % 256, ((Int.tdiv a0 16777216) % 4294967296) % 256] : List Int)) := ⟨_, rfl⟩
 replace H : (some y101) = some r := by first | (rw [hy101]; with_reducible exact H) | (have H2_ := (Option.bind_some _ _).symm.trans H; rw [hy101]; with_reducible exact H2_) | (have H2_ := (Option.bind_some _ _).symm.trans H; with_reducible exact H2_) | with_reducible exact H | (rw [hy101]; exact H) | exact H
 have Ny101 := Ad.mk hy101
 clear hy101
 obtain rfl := Option.some.inj H
 go_enter Tryz.func49, Tryz.ntmps49
 go_wp2_with (first | ((with_reducible refine gate_dst (N := 17) rfl ?_); refine Kd.R_lit (Kd.int .u8) _ 5 ?hg (N := 17) ?hd (xs := ([(Int.tmod a0 256) % 256, ((Int.tdiv a0 256) % 4294967296) % 256, ((Int.tdiv a0 65536) % 4294967296) % 256, ((Int.tdiv a0 16777216) % 4294967296) % 256] : List Int)) (inner := [.int .u8 ((Int.tmod a0 256) % 256), .int .u8 (((Int.tdiv a0 256) % 4294967296) % 256), .int .u8 (((Int.tdiv a0 65536) % 4294967296) % 256), .int .u8 (((Int.tdiv a0 16777216) % 4294967296) % 256)]) (ok := fun _ => True) (okp := fun _ => True) ?hr ?hp (fun _ hk => hk) trivial (Below.refl _ _) (Nat.le_refl _) (by simp) ?_; (case hd => rfl); (case hg => rfl); (case hr => first | (go_simp; done) | (go_simp; rfl)); (case hp => exact (Reps.one (show Kd.M (Kd.int .u8) _ _ _ ((Int.tmod a0 256) % 256) [.int .u8 ((Int.tmod a0 256) % 256)] from rfl) (Reps.one (show Kd.M (Kd.int .u8) _ _ _ (((Int.tdiv a0 256) % 4294967296) % 256) [.int .u8 (((Int.tdiv a0 256) % 4294967296) % 256)] from rfl) (Reps.one (show Kd.M (Kd.int .u8) _ _ _ (((Int.tdiv a0 65536) % 4294967296) % 256) [.int .u8 (((Int.tdiv a0 65536) % 4294967296) % 256)] from rfl) (Reps.one (show Kd.M (Kd.int .u8) _ _ _ (((Int.tdiv a0 16777216) % 4294967296) % 256) [.int .u8 (((Int.tdiv a0 16777216) % 4294967296) % 256)] from rfl) (Reps.none _ _)))))); intro v102 w2 ho3 hb hg_ hnew_; clear hg_ hnew_; (first | rw [← Ny101.out] at ho3 | (simp only [Int.reduceToNat] at ho3; rw [← Ny101.out] at ho3)); have n0_ := Ad.mk (Kd.R_lower ho3 (below_size (by repeat (first | (with_reducible first | exact HB.out | apply bwA | apply bwN | apply bw1) | exact HB.out)))); have n1_ := Ad.mk (below_step (by repeat (first | (with_reducible first | exact HB.out | apply bwA | apply bwN | apply bw1) | exact HB.out)) hb); clear HB; have HO103 := n0_; have HB := n1_; clear n0_ n1_; clear hb ho3))
 go_ret
 exact ⟨_, by first | rfl | (simp [errW_none, errW_some] <;> rfl) | (simp [*, errW_none, errW_some] <;> rfl), by (with_reducible repeat (first | apply Kd.R_alloc | apply Kd.R_drewN | apply Kd.R_drew)); exact HO103.out, by repeat (first | (with_reducible first | exact HB.out | apply bwA | apply bwN | apply bw1) | exact HB.out)⟩
mutual
def r03_More.l0 : Nat → Int → List Int → Int → Option (Int)
 | 0, _, _, _ => none
 | k + 1, x0, x1, x5 => if x5 < (x1.length : Int) then (if 0 ≤ x5 then (r03_More.l1 k (Go.bits .xor .u32 x0 ((rd x1 x5) % 4294967296)) x1 x5 0) else (none)) else (some (Go.bits .xor .u32 x0 4294967295))
def r03_More.l1 : Nat → Int → List Int → Int → Int → Option (Int)
 | 0, _, _, _, _ => none
 | k + 1, x0, x1, x5, x6 => if x6 < 8 then (if (Int.tmod x0 2) = 1 then (r03_More.l1 k (Go.bits .xor .u32 ((Int.tdiv x0 2) % 4294967296) 2197175160) x1 x5 (wrap64 (x6 + 1))) else (r03_More.l1 k ((Int.tdiv x0 2) % 4294967296) x1 x5 (wrap64 (x6 + 1)))) else (r03_More.l0 k x0 x1 (wrap64 (x5 + 1)))
end
def r03_More.f (k : Nat) (a0 : Int) (l1 : List Int) : Option (Int) := r03_More.l0 k (Go.bits .xor .u32 a0 4294967295) l1 0
set_option maxHeartbeats 8000000 in
set_option maxRecDepth 100000 in
theorem r03_More.calls (k : Nat) (a0 : Int) (A1 : Option Addr) (c1 : Nat) (l1 : List Int) (r : Int) (w : World) (hr1 : Kd.C (Kd.int .u8) w A1 l1.length l1) (hc1 : l1.length ≤ c1) (h : r03_More.f k a0 l1 = some r) :
  Calls Tryz.prog 101 #[.int .u32 a0, .slice A1 l1.length c1] w fun e w' => e = .returned (.int .u32 r) ∧ Drawn0 w w' := by
 have HR1 := Ad.mk hr1
 have HC1 := Ad.mk hc1
 clear hr1 hc1
 have H : (r03_More.l0 k (Go.bits .xor .u32 a0 4294967295) l1 0) = some r := h
 clear h
 have H' := Ad.mk H
 clear H
 go_enter Tryz.func101, Tryz.ntmps101
 go_wp2
 go_loopg [0, 5] k (fun kq v0 v5 w' => ∃ (x0_1 : Int) (x5_1 : Int), v0 = .int .u32 x0_1 ∧ v5 = .int .i64 x5_1 ∧ Ad (r03_More.l0 kq x0_1 l1 x5_1 = some r) ∧ Ad (kq ≤ k) ∧ Drawn0 w w')
 case atStart => exact ⟨(Go.bits .xor .u32 a0 4294967295), (0), (by first | rfl | (simp; done) | (simp [*]; done)), (by first | rfl | (simp; done) | (simp [*]; done)), H', ⟨Nat.le_refl _⟩, by repeat (first | exact Drawn0.refl _ | apply Drawn0.step)⟩
 case round =>
  clear H'
  try clear c1
  try clear p2
  obtain ⟨x0_1, x5_1, rfl, rfl, HA, HK1, ⟨m1, rfl⟩⟩ := hrel
  cases gk with
  | zero => exact absurd HA.out (by simp [r03_More.l0])
  | succ k1 =>
   have H := HA.out
   clear HA
   simp only [r03_More.l0] at H
   by_cases c3 : x5_1 < (l1.length : Int)
   ·rw [if_pos c3] at H
    have c3b0 : decide (x5_1 < (l1.length : Int)) = true := decide_eq_true c3
    clear c3
    by_cases c4 : 0 ≤ x5_1
    ·rw [if_pos c4] at H
     have c4b0 : decide (0 ≤ x5_1) = true := decide_eq_true c4
     clear c4
     have H' := Ad.mk H
     clear H
     have p104 : 0 ≤ (x5_1 : Int) := of_decide_eq_true (by first | (with_reducible assumption) | assumption)
     have q104 : x5_1 < (l1.length : Int) := of_decide_eq_true (by first | (with_reducible assumption) | assumption)
     obtain ⟨ad104, e104, hx104_0⟩ := Kd.at_int HR1.out x5_1 p104 q104
     cases e104
     replace p104 := eq_true p104
     replace q104 := eq_true q104
     go_wp2
     go_loopg [0, 6] k1 (fun kq v0 v6 w' => ∃ (x0_2 : Int) (x6_2 : Int), v0 = .int .u32 x0_2 ∧ v6 = .int .i64 x6_2 ∧ Ad (r03_More.l1 kq x0_2 l1 x5_1 x6_2 = some r) ∧ Ad (kq ≤ k1) ∧ Drawn0 w w')
     case atStart => exact ⟨(Go.bits .xor .u32 x0_1 ((rd l1 x5_1) % 4294967296)), (0), (by first | rfl | (simp; done) | (simp [*]; done)), (by first | rfl | (simp; done) | (simp [*]; done)), H', ⟨Nat.le_refl _⟩, by repeat (first | exact Drawn0.refl _ | apply Drawn0.step)⟩
     case round =>
      clear H'
      try clear c1
      try clear p1
      try clear q1
      try clear hx1
      try clear p2
      try clear c3
      try clear c3b0
      try clear c4
      try clear c4b0
      try clear hx104_0
      try clear p104
      try clear p2
      try clear q104
      obtain ⟨x0_2, x6_2, rfl, rfl, HA, HK2, ⟨m2, rfl⟩⟩ := hrel
      cases gk with
      | zero => exact absurd HA.out (by simp [r03_More.l1])
      | succ k2 =>
       have H := HA.out
       clear HA
       simp only [r03_More.l1] at H
       by_cases c5 : x6_2 < 8
       ·rw [if_pos c5] at H
        have c5b0 : decide (x6_2 < 8) = true := decide_eq_true c5
        clear c5
        by_cases c6 : (Int.tmod x0_2 2) = 1
        ·rw [if_pos c6] at H
         have c6b0 : ((Int.tmod x0_2 2) == 1) = true := beq_iff_eq.mpr c6
         have c6b1 : ((Int.tmod x0_2 2) != 1) = false := bne_eq_false_iff_eq.mpr c6
         clear c6
         have H' := Ad.mk H
         clear H
         go_wp2
         go_roundg k2
         case measure => have := HK1.out; have := HK2.out; omega
         case rel => exact ⟨(Go.bits .xor .u32 ((Int.tdiv x0_2 2) % 4294967296) 2197175160), (wrap64 (x6_2 + 1)), (by first | rfl | (simp; done) | (simp [*]; done)), (by first | rfl | (simp; done) | (simp [*]; done)), H', ⟨by have := HK1.out; have := HK2.out; omega⟩, by repeat (first | exact Drawn0.refl _ | apply Drawn0.step)⟩
        ·rw [if_neg c6] at H
         have c6b0 : ((Int.tmod x0_2 2) == 1) = false := beq_eq_false_iff_ne.mpr c6
         have c6b1 : ((Int.tmod x0_2 2) != 1) = true := bne_iff_ne.mpr c6
         have H' := Ad.mk H
         clear H
         go_wp2
         go_roundg k2
         case measure => have := HK1.out; have := HK2.out; omega
         case rel => exact ⟨((Int.tdiv x0_2 2) % 4294967296), (wrap64 (x6_2 + 1)), (by first | rfl | (simp; done) | (simp [*]; done)), (by first | rfl | (simp; done) | (simp [*]; done)), H', ⟨by have := HK1.out; have := HK2.out; omega⟩, by repeat (first | exact Drawn0.refl _ | apply Drawn0.step)⟩
       ·rw [if_neg c5] at H
        have c5b0 : decide (x6_2 < 8) = false := decide_eq_false c5
        clear c5
        have H' := Ad.mk H
        clear H
        go_wp2
        go_roundg k2
        case measure => have := HK1.out; have := HK2.out; omega
        case rel => exact ⟨(x0_2), (wrap64 (x5_1 + 1)), (by first | rfl | (simp; done) | (simp [*]; done)), (by first | rfl | (simp; done) | (simp [*]; done)), H', ⟨by have := HK1.out; have := HK2.out; omega⟩, by repeat (first | exact Drawn0.refl _ | apply Drawn0.step)⟩
    ·rw [if_neg c4] at H
     exact absurd H (by simp)
   ·rw [if_neg c3] at H
    have c3b0 : decide (x5_1 < (l1.length : Int)) = false := decide_eq_false c3
    clear c3
    obtain rfl := Option.some.inj H
    go_wp2
    go_ret
    exact ⟨by first | rfl | (simp; done) | (simp [*]; done), by repeat (first | exact Drawn0.refl _ | apply Drawn0.step)⟩
def r03_Sum.f (k : Nat) (l0 : List Int) : Option (Int) := (r03_More.f k 0 l0).bind fun t105 => (some t105)
set_option maxHeartbeats 8000000 in
set_option maxRecDepth 100000 in
theorem r03_Sum.calls (k : Nat) (A0 : Option Addr) (c0 : Nat) (l0 : List Int) (r : Int) (w : World) (hr0 : Kd.C (Kd.int .u8) w A0 l0.length l0) (hc0 : l0.length ≤ c0) (h : r03_Sum.f k l0 = some r) :
  Calls Tryz.prog 50 #[.slice A0 l0.length c0] w fun e w' => e = .returned (.int .u32 r) ∧ Drawn0 w w' := by
 have HR0 := Ad.mk hr0
 have HC0 := Ad.mk hc0
 clear hr0 hc0
 have H : ((r03_More.f k 0 l0).bind fun t105 => (some t105)) = some r := h
 clear h
 replace H := Option.bind_eq_some_iff.mp H
 obtain ⟨t105, A20, H⟩ := H
 replace H : (some t105) = some r := H
 have A2 := Ad.mk A20
 clear A20
 obtain rfl := Option.some.inj H
 go_enter Tryz.func50, Tryz.ntmps50
 go_wp2_with (first | ((with_reducible refine gate_callee (f := 101) rfl ?_); refine goesL_ (some 4) rfl rfl Tryz.func101 (by kernel_rfl) rfl #[.int .u32 0, .slice A0 l0.length c0] rfl (by (try simp only [List.map_toArray, List.map_cons, List.map_nil]); first | done | rfl | (simp only [List.length_drop, List.length_take]; rfl)) ?_; (with_reducible refine (r03_More.calls k 0 _ _ l0 t105 _ ?side1 ?side2 A2.out).mono ?_); (case side1 => repeat (first | exact HR0.out | (with_reducible refine Kd.C_alloc ?_ _) | (with_reducible refine Kd.C_drewN ?_ _) | (with_reducible refine Kd.C_drew ?_))); (case side2 => exact HC0.out); rintro e w' ⟨rfl, ⟨nd, rfl⟩⟩; refine ⟨_, rfl, ?_⟩))
 go_ret
 exact ⟨by first | rfl | (simp; done) | (simp [*]; done), by repeat (first | exact Drawn0.refl _ | apply Drawn0.step)⟩
def r03_Open.f (k : Nat) (l0 : List Int) : Option (List Int × Int) := if (l0.length : Int) < 4 then (some (([] : List Int), 14)) else (if 0 ≤ (wrap64 ((l0.length : Int) - 4)) then (if (wrap64 ((l0.length : Int) - 4)) ≤ (l0.length : Int) then ((r03_Sum.f k (l0.take ((wrap64 ((l0.length : Int) - 4)) : Int).toNat)).bind fun t110 => ((r03_Tail.f t110).bind fun t111 => (if (strOfNums t111).toList = (strOfNums (l0.drop ((wrap64 ((l0.length : Int) - 4)) : Int).toNat)).toList then (some ((l0.take ((wrap64 ((l0.length : Int) - 4)) : Int).toNat), 0)) else (some (([] : List Int), 10))))) else (none)) else (none))
def r03_Open.T4 : Bool × List (List Nat × List Nat) := (true, [([], []), ([], []), ([0, 1], [0, 1]), ([2], [2]), ([3, 3], [3]), ([4], [4]), ([], []), ([], []), ([6, 7], [6, 7]), ([8], [8]), ([5, 9], [5, 9])])
def r03_Open.B4 : List Nat := [0, 0, 3, 7, 15, 31, 0, 0, 192, 448, 1023]
theorem r03_Open.tab4 : rtab .any (opsOf Tryz.f27 4) = r03_Open.T4 := by kernel_rfl
theorem r03_Open.bits4 : waitsOk r03_Open.T4.2 r03_Open.B4 = true := by kernel_rfl
end Go.Proofs.YthnndjlccepebaaGreatDoor.PHeavy
namespace Go.Proofs.YthnndjlccepebaaGreatDoor.PHeavy
open Go.RowKit Go.Proofs.YthnndjlccepebaaGreatDoorW.PrintWords Go.Proofs.YthnndjlccepebaaGreatDoorW.PrintLast

mutual
def r12_Get.j0 : Nat → List Int → Int → Int → Bool → Option (Int × Int × Int)
 | 0, _, _, _, _ => none
 | k + 1, x0, x1, x2, x26 => if x26 = true then (some (0, 0, 11)) else (if (wrap64 ((x0.length : Int) - x1)) < x2 then (some (0, 0, 14)) else (r12_Get.l0 k x0 x1 x2 0 (wrap64 (x2 - 1))))
def r12_Get.l0 : Nat → List Int → Int → Int → Int → Int → Option (Int × Int × Int)
 | 0, _, _, _, _, _ => none
 | k + 1, x0, x1, x2, x9, x10 => if x10 ≥ 0 then (if 0 ≤ (wrap64 (x1 + x10)) then (if (wrap64 (x1 + x10)) < (x0.length : Int) then (r12_Get.l0 k x0 x1 x2 (IntKind.u64.wrap ((IntKind.u64.wrap (x9 * 256)) + (IntKind.u64.wrap (rd x0 (wrap64 (x1 + x10)))))) (wrap64 (x10 - 1))) else (none)) else (none)) else (some (x9, wrap64 (x1 + x2), 0))
end
def r12_Get.f (k : Nat) (l0 : List Int) (a1 : Int) (a2 : Int) : Option (Int × Int × Int) := if a2 < 1 then (r12_Get.j0 k l0 a1 a2 true) else (if a2 > 8 then (r12_Get.j0 k l0 a1 a2 true) else (if a1 < 0 then (r12_Get.j0 k l0 a1 a2 true) else (r12_Get.j0 k l0 a1 a2 (decide (a1 > (l0.length : Int))))))
set_option maxHeartbeats 8000000 in
set_option maxRecDepth 100000 in
theorem r12_Get.calls (k : Nat) (A0 : Option Addr) (c0 : Nat) (l0 : List Int) (a1 : Int) (a2 : Int) (r1 : Int) (r2 : Int) (r3 : Int) (w : World) (hr0 : Kd.C (Kd.int .u8) w A0 l0.length l0) (hc0 : l0.length ≤ c0) (h : r12_Get.f k l0 a1 a2 = some (r1, r2, r3)) :
  Calls Tryz.prog 102 #[.slice A0 l0.length c0, .int .i64 a1, .int .i64 a2] w fun e w' => e = .returned (.tuple #[.int .u64 r1, .int .i64 r2, .int .i64 r3]) ∧ Drawn0 w w' := by
 have HR0 := Ad.mk hr0
 have HC0 := Ad.mk hc0
 clear hr0 hc0
 have H : (if a2 < 1 then (r12_Get.j0 k l0 a1 a2 true) else (if a2 > 8 then (r12_Get.j0 k l0 a1 a2 true) else (if a1 < 0 then (r12_Get.j0 k l0 a1 a2 true) else (r12_Get.j0 k l0 a1 a2 (decide (a1 > (l0.length : Int))))))) = some (r1, r2, r3) := h
 clear h
 have HC4 := Ad.mk H
 clear H
 go_enter Tryz.func102, Tryz.ntmps102
 go_upto_region 1 with (fail)
 go_cut [26] (fun v26 wc => ∃ (kq : Nat) (x26_3 : Bool), v26 = .bool x26_3 ∧ Ad (r12_Get.j0 kq l0 a1 a2 x26_3 = some (r1, r2, r3)) ∧ Ad (kq ≤ k) ∧ Drawn0 w wc)
 case first =>
  have H := HC4.out
  clear HC4
  by_cases c5 : a2 < 1
  ·rw [if_pos c5] at H
   have c5b0 : decide (a2 < 1) = true := decide_eq_true c5
   clear c5
   (first | rw [c5b0] | (simp only [i64_w]; rw [c5b0]) | skip)
   have H' := Ad.mk H
   clear H
   go_wp2
   go_meet
   case rel => exact ⟨_, (true), (by first | rfl | (simp; done) | (simp [*]; done)), H', ⟨by first | omega | exact Nat.le_refl _⟩, by repeat (first | exact Drawn0.refl _ | apply Drawn0.step)⟩
  ·rw [if_neg c5] at H
   have c5b0 : decide (a2 < 1) = false := decide_eq_false c5
   clear c5
   (first | rw [c5b0] | (simp only [i64_w]; rw [c5b0]) | skip)
   by_cases c6 : a2 > 8
   ·rw [if_pos c6] at H
    have c6b0 : decide (8 < a2) = true := decide_eq_true c6
    clear c6
    have H' := Ad.mk H
    clear H
    go_wp2
    go_meet
    case rel => exact ⟨_, (true), (by first | rfl | (simp; done) | (simp [*]; done)), H', ⟨by first | omega | exact Nat.le_refl _⟩, by repeat (first | exact Drawn0.refl _ | apply Drawn0.step)⟩
   ·rw [if_neg c6] at H
    have c6b0 : decide (8 < a2) = false := decide_eq_false c6
    clear c6
    by_cases c7 : a1 < 0
    ·rw [if_pos c7] at H
     have c7b0 : decide (a1 < 0) = true := decide_eq_true c7
     clear c7
     have H' := Ad.mk H
     clear H
     go_wp2
     go_meet
     case rel => exact ⟨_, (true), (by first | rfl | (simp; done) | (simp [*]; done)), H', ⟨by first | omega | exact Nat.le_refl _⟩, by repeat (first | exact Drawn0.refl _ | apply Drawn0.step)⟩
    ·rw [if_neg c7] at H
     have c7b0 : decide (a1 < 0) = false := decide_eq_false c7
     clear c7
     have H' := Ad.mk H
     clear H
     go_wp2
     go_meet
     case rel => exact ⟨_, (decide (a1 > (l0.length : Int))), (by first | rfl | (simp; done) | (simp [*]; done)), H', ⟨by first | omega | exact Nat.le_refl _⟩, by repeat (first | exact Drawn0.refl _ | apply Drawn0.step)⟩
 case rest =>
  clear HC4
  try clear c1
  try clear p2
  try clear c5
  try clear c5b0
  try clear c6
  try clear c6b0
  try clear c7
  try clear c7b0
  obtain ⟨kq, x26_3, rfl, HA, HJ3, ⟨mc3, rfl⟩⟩ := hcut
  cases kq with
  | zero => exact absurd HA.out (by simp [r12_Get.j0])
  | succ kj3 =>
   have H := HA.out
   clear HA
   simp only [r12_Get.j0] at H
   by_cases c8 : x26_3 = true
   ·subst c8
    have H1 : (some (0, 0, 11)) = some (r1, r2, r3) := by rw [if_pos rfl] at H; exact H
    clear H
    have H := H1
    clear H1
    simp only [Option.some.injEq, Prod.mk.injEq] at H
    obtain ⟨rfl, rfl, rfl⟩ := H
    go_wp2
    go_ret3
    exact ⟨by first | rfl | (simp; done) | (simp [*]; done), by repeat (first | exact Drawn0.refl _ | apply Drawn0.step)⟩
   ·replace c8 := Bool.eq_false_iff.mpr c8
    subst c8
    have H1 : (if (wrap64 ((l0.length : Int) - a1)) < a2 then (some (0, 0, 14)) else (r12_Get.l0 kj3 l0 a1 a2 0 (wrap64 (a2 - 1)))) = some (r1, r2, r3) := by rw [if_neg (show ¬ (false = true) by decide)] at H; exact H
    clear H
    have H := H1
    clear H1
    by_cases c9 : (wrap64 ((l0.length : Int) - a1)) < a2
    ·rw [if_pos c9] at H
     have c9b0 : decide ((wrap64 ((l0.length : Int) - a1)) < a2) = true := decide_eq_true c9
     clear c9
     simp only [Option.some.injEq, Prod.mk.injEq] at H
     obtain ⟨rfl, rfl, rfl⟩ := H
     go_wp2
     go_ret3
     exact ⟨by first | rfl | (simp; done) | (simp [*]; done), by repeat (first | exact Drawn0.refl _ | apply Drawn0.step)⟩
    ·rw [if_neg c9] at H
     have c9b0 : decide ((wrap64 ((l0.length : Int) - a1)) < a2) = false := decide_eq_false c9
     clear c9
     have H' := Ad.mk H
     clear H
     go_wp2
     go_loopg [9, 10] kj3 (fun kq v9 v10 w' => ∃ (x9_2 : Int) (x10_2 : Int), v9 = .int .u64 x9_2 ∧ v10 = .int .i64 x10_2 ∧ Ad (r12_Get.l0 kq l0 a1 a2 x9_2 x10_2 = some (r1, r2, r3)) ∧ Ad (kq ≤ kj3) ∧ Drawn0 w w')
     case atStart => exact ⟨(0), (wrap64 (a2 - 1)), (by first | rfl | (simp; done) | (simp [*]; done)), (by first | rfl | (simp; done) | (simp [*]; done)), H', ⟨Nat.le_refl _⟩, by repeat (first | exact Drawn0.refl _ | apply Drawn0.step)⟩
     case round =>
      clear H'
      try clear c1
      try clear p2
      try clear c3
      try clear c5
      try clear c5b0
      try clear c6
      try clear c6b0
      try clear p6
      try clear c7
      try clear c7b0
      try clear c8
      try clear c9
      try clear c9b0
      try clear p2
      obtain ⟨x9_2, x10_2, rfl, rfl, HA, HK2, ⟨m2, rfl⟩⟩ := hrel
      cases gk with
      | zero => exact absurd HA.out (by simp [r12_Get.l0])
      | succ k2 =>
       have H := HA.out
       clear HA
       simp only [r12_Get.l0] at H
       by_cases c10 : x10_2 ≥ 0
       ·rw [if_pos c10] at H
        have c10b0 : decide (0 ≤ x10_2) = true := decide_eq_true c10
        clear c10
        obtain ⟨ji11, hji11⟩ : ∃ j_ : Int, (wrap64 (a1 + x10_2)) = j_ := ⟨_, rfl⟩
        replace H : (if 0 ≤ (ji11) then (if (ji11) < (l0.length : Int) then (r12_Get.l0 k2 l0 a1 a2 (IntKind.u64.wrap ((IntKind.u64.wrap (x9_2 * 256)) + (IntKind.u64.wrap (rd l0 (ji11))))) (wrap64 (x10_2 - 1))) else (none)) else (none)) = some (r1, r2, r3) := by first | (rw [hji11] at H; exact H) | (simp only [hji11] at H ⊢; exact H)
        have hji11w : (IntKind.i64.wrap (a1 + x10_2)) = ji11 := (i64_w _).trans hji11
        by_cases c12 : 0 ≤ (ji11)
        ·rw [if_pos c12] at H
         have c12b0 : decide (0 ≤ (ji11)) = true := decide_eq_true c12
         clear c12
         by_cases c13 : (ji11) < (l0.length : Int)
         ·rw [if_pos c13] at H
          have c13b0 : decide ((ji11) < (l0.length : Int)) = true := decide_eq_true c13
          clear c13
          have H' := Ad.mk H
          clear H
          have p121 : 0 ≤ ((ji11) : Int) := of_decide_eq_true (by first | (with_reducible assumption) | assumption)
          have q121 : (ji11) < (l0.length : Int) := of_decide_eq_true (by first | (with_reducible assumption) | assumption)
          obtain ⟨ad121, e121, hx121_0⟩ := Kd.at_int HR0.out (ji11) p121 q121
          cases e121
          replace p121 := eq_true p121
          replace q121 := eq_true q121
          go_wp2
          go_roundg k2
          case measure => have := HJ3.out; have := HK2.out; omega
          case rel => exact ⟨(IntKind.u64.wrap ((IntKind.u64.wrap (x9_2 * 256)) + (IntKind.u64.wrap (rd l0 (ji11))))), (wrap64 (x10_2 - 1)), (by first | rfl | (simp; done) | (simp only [← hji11] <;> (first | rfl | simp)) | (simp [*]; done)), (by first | rfl | (simp; done) | (simp [*]; done)), H', ⟨by have := HJ3.out; have := HK2.out; omega⟩, by repeat (first | exact Drawn0.refl _ | apply Drawn0.step)⟩
         ·rw [if_neg c13] at H
          exact absurd H (by simp)
        ·rw [if_neg c12] at H
         exact absurd H (by simp)
       ·rw [if_neg c10] at H
        have c10b0 : decide (0 ≤ x10_2) = false := decide_eq_false c10
        clear c10
        simp only [Option.some.injEq, Prod.mk.injEq] at H
        obtain ⟨rfl, rfl, rfl⟩ := H
        go_wp2
        go_ret3
        exact ⟨by first | rfl | (simp; done) | (simp [*]; done), by repeat (first | exact Drawn0.refl _ | apply Drawn0.step)⟩
def r13_get.f (k : Nat) (l0 : List Int) (a1 : Int) (a2 : Int) : Option (Int) := (r12_Get.f k l0 a1 a2).bind fun bt122 => (some (wrap64 (bt122.1)))
set_option maxHeartbeats 8000000 in
set_option maxRecDepth 100000 in
theorem r13_get.calls (k : Nat) (A0 : Option Addr) (c0 : Nat) (l0 : List Int) (a1 : Int) (a2 : Int) (r : Int) (w : World) (hr0 : Kd.C (Kd.int .u8) w A0 l0.length l0) (hc0 : l0.length ≤ c0) (h : r13_get.f k l0 a1 a2 = some r) :
  Calls Tryz.prog 51 #[.slice A0 l0.length c0, .int .i64 a1, .int .i64 a2] w fun e w' => e = .returned (.int .i64 r) ∧ Drawn0 w w' := by
 have HR0 := Ad.mk hr0
 have HC0 := Ad.mk hc0
 clear hr0 hc0
 have H : ((r12_Get.f k l0 a1 a2).bind fun bt122 => (some (wrap64 (bt122.1)))) = some r := h
 clear h
 replace H := Option.bind_eq_some_iff.mp H
 obtain ⟨⟨t122, t123, t124⟩, A40, H⟩ := H
 replace H : (some (wrap64 (t122))) = some r := H
 have A4 := Ad.mk A40
 clear A40
 obtain rfl := Option.some.inj H
 go_enter Tryz.func51, Tryz.ntmps51
 go_wp2_with (first | ((with_reducible refine gate_callee (f := 102) rfl ?_); refine goesL_ (some 14) rfl rfl Tryz.func102 (by kernel_rfl) rfl #[.slice A0 l0.length c0, .int .i64 a1, .int .i64 a2] rfl (by (try simp only [List.map_toArray, List.map_cons, List.map_nil]); first | done | rfl | (simp only [List.length_drop, List.length_take]; rfl)) ?_; (with_reducible refine (r12_Get.calls k _ _ l0 a1 a2 t122 t123 t124 _ ?side1 ?side2 A4.out).mono ?_); (case side1 => repeat (first | exact HR0.out | (with_reducible refine Kd.C_alloc ?_ _) | (with_reducible refine Kd.C_drewN ?_ _) | (with_reducible refine Kd.C_drew ?_))); (case side2 => exact HC0.out); rintro e w' ⟨rfl, ⟨nd, rfl⟩⟩; refine ⟨_, rfl, ?_⟩))
 go_ret
 exact ⟨by first | rfl | (simp; done) | (simp [*]; done), by repeat (first | exact Drawn0.refl _ | apply Drawn0.step)⟩
def r07_Right.f (a0_0 : Int) (a0_1 : Int) (a0_2 : Int) (a0_3 : Int) : Option (Bool) := if a0_0 ≥ 0 then (if a0_0 ≤ a0_2 then (if a0_2 < 1024 then (if a0_1 ≥ 0 then (if a0_1 ≤ a0_3 then (some (decide (a0_3 < 1024))) else (some false)) else (some false)) else (some false)) else (some false)) else (some false)
set_option maxHeartbeats 8000000 in
set_option maxRecDepth 100000 in
theorem r07_Right.calls (a0_0 : Int) (a0_1 : Int) (a0_2 : Int) (a0_3 : Int) (r : Bool) (w : World) (h : r07_Right.f a0_0 a0_1 a0_2 a0_3 = some r) :
  Calls Tryz.prog 108 #[.agg #[.int .i64 a0_0, .int .i64 a0_1, .int .i64 a0_2, .int .i64 a0_3]] w fun e w' => e = .returned (.bool r) ∧ Below w.heap.size w w' := by
 have hu23 := Tryz.underlying23
 have HB := Ad.mk (Below.refl w.heap.size w)
 have H : (if a0_0 ≥ 0 then (if a0_0 ≤ a0_2 then (if a0_2 < 1024 then (if a0_1 ≥ 0 then (if a0_1 ≤ a0_3 then (some (decide (a0_3 < 1024))) else (some false)) else (some false)) else (some false)) else (some false)) else (some false)) = some r := h
 clear h
 by_cases c2 : a0_0 ≥ 0
 ·rw [if_pos c2] at H
  have c2b0 : decide (0 ≤ a0_0) = true := decide_eq_true c2
  clear c2
  by_cases c3 : a0_0 ≤ a0_2
  ·rw [if_pos c3] at H
   have c3b0 : decide (a0_0 ≤ a0_2) = true := decide_eq_true c3
   clear c3
   by_cases c4 : a0_2 < 1024
   ·rw [if_pos c4] at H
    have c4b0 : decide (a0_2 < 1024) = true := decide_eq_true c4
    clear c4
    by_cases c5 : a0_1 ≥ 0
    ·rw [if_pos c5] at H
     have c5b0 : decide (0 ≤ a0_1) = true := decide_eq_true c5
     clear c5
     by_cases c6 : a0_1 ≤ a0_3
     ·rw [if_pos c6] at H
      have c6b0 : decide (a0_1 ≤ a0_3) = true := decide_eq_true c6
      clear c6
      obtain rfl := Option.some.inj H
      go_enter Tryz.func108, Tryz.ntmps108
      go_wp2_with (first | ((with_reducible refine gate_dst (N := 1) rfl ?_); refine box_event ?hg (N := 1) ?hd (cs := #[.int .i64 a0_0, .int .i64 a0_1, .int .i64 a0_2, .int .i64 a0_3]) (t := 23) ?hr ?_; (case hd => rfl); (case hg => rfl); (case hr => first | (go_simp; done) | (go_simp; rfl)); intro gb125 hg w7 hbox hb; have n0_ := Ad.mk (below_step (by repeat (first | (with_reducible first | exact HB.out | apply bwA | apply bwN | apply bw1) | exact HB.out)) hb); have n1_ := Ad.mk (hbox); have n2_ := Ad.mk ((by rw [hg]; exact (below_size (by repeat (first | (with_reducible first | exact HB.out | apply bwA | apply bwN | apply bw1) | exact HB.out))) : w.heap.size ≤ gb125)); have n3_ := Ad.mk ((by rw [hg]; exact (below_size (by repeat (first | (with_reducible first | exact HB.out | apply bwA | apply bwN | apply bw1) | exact HB.out))) : w.heap.size ≤ gb125)); clear HB; have HB := n0_; have BK125 := n1_; have GW125 := n2_; have GE125 := n3_; clear n0_ n1_ n2_ n3_; clear hb hbox hg; have hcz8_0 : w7.cell? ⟨gb125, 0, none⟩ = some (.int .i64 a0_0) := (bkC BK125.out 0).trans rfl; have hcz8_1 : w7.cell? ⟨gb125, 1, none⟩ = some (.int .i64 a0_1) := (bkC BK125.out 1).trans rfl; have hcz8_2 : w7.cell? ⟨gb125, 2, none⟩ = some (.int .i64 a0_2) := (bkC BK125.out 2).trans rfl; have hcz8_3 : w7.cell? ⟨gb125, 3, none⟩ = some (.int .i64 a0_3) := (bkC BK125.out 3).trans rfl; have hfz8_0 := bkF BK125.out 0; have hfz8_1 := bkF BK125.out 1; have hfz8_2 := bkF BK125.out 2; have hfz8_3 := bkF BK125.out 3))
      go_ret
      exact ⟨by first | rfl | (simp [errW_none, errW_some] <;> rfl) | (simp [*, errW_none, errW_some] <;> rfl), by repeat (first | (with_reducible first | exact HB.out | apply bwA | apply bwN | apply bw1 | refine bwS ?_ GE125.out) | exact HB.out)⟩
     ·rw [if_neg c6] at H
      have c6b0 : decide (a0_1 ≤ a0_3) = false := decide_eq_false c6
      clear c6
      obtain rfl := Option.some.inj H
      go_enter Tryz.func108, Tryz.ntmps108
      go_wp2_with (first | ((with_reducible refine gate_dst (N := 1) rfl ?_); refine box_event ?hg (N := 1) ?hd (cs := #[.int .i64 a0_0, .int .i64 a0_1, .int .i64 a0_2, .int .i64 a0_3]) (t := 23) ?hr ?_; (case hd => rfl); (case hg => rfl); (case hr => first | (go_simp; done) | (go_simp; rfl)); intro gb125 hg w9 hbox hb; have n0_ := Ad.mk (below_step (by repeat (first | (with_reducible first | exact HB.out | apply bwA | apply bwN | apply bw1) | exact HB.out)) hb); have n1_ := Ad.mk (hbox); have n2_ := Ad.mk ((by rw [hg]; exact (below_size (by repeat (first | (with_reducible first | exact HB.out | apply bwA | apply bwN | apply bw1) | exact HB.out))) : w.heap.size ≤ gb125)); have n3_ := Ad.mk ((by rw [hg]; exact (below_size (by repeat (first | (with_reducible first | exact HB.out | apply bwA | apply bwN | apply bw1) | exact HB.out))) : w.heap.size ≤ gb125)); clear HB; have HB := n0_; have BK125 := n1_; have GW125 := n2_; have GE125 := n3_; clear n0_ n1_ n2_ n3_; clear hb hbox hg; have hcz10_0 : w9.cell? ⟨gb125, 0, none⟩ = some (.int .i64 a0_0) := (bkC BK125.out 0).trans rfl; have hcz10_1 : w9.cell? ⟨gb125, 1, none⟩ = some (.int .i64 a0_1) := (bkC BK125.out 1).trans rfl; have hcz10_2 : w9.cell? ⟨gb125, 2, none⟩ = some (.int .i64 a0_2) := (bkC BK125.out 2).trans rfl; have hcz10_3 : w9.cell? ⟨gb125, 3, none⟩ = some (.int .i64 a0_3) := (bkC BK125.out 3).trans rfl; have hfz10_0 := bkF BK125.out 0; have hfz10_1 := bkF BK125.out 1; have hfz10_2 := bkF BK125.out 2; have hfz10_3 := bkF BK125.out 3))
      go_ret
      exact ⟨by first | rfl | (simp [errW_none, errW_some] <;> rfl) | (simp [*, errW_none, errW_some] <;> rfl), by repeat (first | (with_reducible first | exact HB.out | apply bwA | apply bwN | apply bw1 | refine bwS ?_ GE125.out) | exact HB.out)⟩
    ·rw [if_neg c5] at H
     have c5b0 : decide (0 ≤ a0_1) = false := decide_eq_false c5
     clear c5
     obtain rfl := Option.some.inj H
     go_enter Tryz.func108, Tryz.ntmps108
     go_wp2_with (first | ((with_reducible refine gate_dst (N := 1) rfl ?_); refine box_event ?hg (N := 1) ?hd (cs := #[.int .i64 a0_0, .int .i64 a0_1, .int .i64 a0_2, .int .i64 a0_3]) (t := 23) ?hr ?_; (case hd => rfl); (case hg => rfl); (case hr => first | (go_simp; done) | (go_simp; rfl)); intro gb125 hg w11 hbox hb; have n0_ := Ad.mk (below_step (by repeat (first | (with_reducible first | exact HB.out | apply bwA | apply bwN | apply bw1) | exact HB.out)) hb); have n1_ := Ad.mk (hbox); have n2_ := Ad.mk ((by rw [hg]; exact (below_size (by repeat (first | (with_reducible first | exact HB.out | apply bwA | apply bwN | apply bw1) | exact HB.out))) : w.heap.size ≤ gb125)); have n3_ := Ad.mk ((by rw [hg]; exact (below_size (by repeat (first | (with_reducible first | exact HB.out | apply bwA | apply bwN | apply bw1) | exact HB.out))) : w.heap.size ≤ gb125)); clear HB; have HB := n0_; have BK125 := n1_; have GW125 := n2_; have GE125 := n3_; clear n0_ n1_ n2_ n3_; clear hb hbox hg; have hcz12_0 : w11.cell? ⟨gb125, 0, none⟩ = some (.int .i64 a0_0) := (bkC BK125.out 0).trans rfl; have hcz12_1 : w11.cell? ⟨gb125, 1, none⟩ = some (.int .i64 a0_1) := (bkC BK125.out 1).trans rfl; have hcz12_2 : w11.cell? ⟨gb125, 2, none⟩ = some (.int .i64 a0_2) := (bkC BK125.out 2).trans rfl; have hcz12_3 : w11.cell? ⟨gb125, 3, none⟩ = some (.int .i64 a0_3) := (bkC BK125.out 3).trans rfl; have hfz12_0 := bkF BK125.out 0; have hfz12_1 := bkF BK125.out 1; have hfz12_2 := bkF BK125.out 2; have hfz12_3 := bkF BK125.out 3))
     go_ret
     exact ⟨by first | rfl | (simp [errW_none, errW_some] <;> rfl) | (simp [*, errW_none, errW_some] <;> rfl), by repeat (first | (with_reducible first | exact HB.out | apply bwA | apply bwN | apply bw1 | refine bwS ?_ GE125.out) | exact HB.out)⟩
   ·rw [if_neg c4] at H
    have c4b0 : decide (a0_2 < 1024) = false := decide_eq_false c4
    clear c4
    obtain rfl := Option.some.inj H
    go_enter Tryz.func108, Tryz.ntmps108
    go_wp2_with (first | ((with_reducible refine gate_dst (N := 1) rfl ?_); refine box_event ?hg (N := 1) ?hd (cs := #[.int .i64 a0_0, .int .i64 a0_1, .int .i64 a0_2, .int .i64 a0_3]) (t := 23) ?hr ?_; (case hd => rfl); (case hg => rfl); (case hr => first | (go_simp; done) | (go_simp; rfl)); intro gb125 hg w13 hbox hb; have n0_ := Ad.mk (below_step (by repeat (first | (with_reducible first | exact HB.out | apply bwA | apply bwN | apply bw1) | exact HB.out)) hb); have n1_ := Ad.mk (hbox); have n2_ := Ad.mk ((by rw [hg]; exact (below_size (by repeat (first | (with_reducible first | exact HB.out | apply bwA | apply bwN | apply bw1) | exact HB.out))) : w.heap.size ≤ gb125)); have n3_ := Ad.mk ((by rw [hg]; exact (below_size (by repeat (first | (with_reducible first | exact HB.out | apply bwA | apply bwN | apply bw1) | exact HB.out))) : w.heap.size ≤ gb125)); clear HB; have HB := n0_; have BK125 := n1_; have GW125 := n2_; have GE125 := n3_; clear n0_ n1_ n2_ n3_; clear hb hbox hg; have hcz14_0 : w13.cell? ⟨gb125, 0, none⟩ = some (.int .i64 a0_0) := (bkC BK125.out 0).trans rfl; have hcz14_1 : w13.cell? ⟨gb125, 1, none⟩ = some (.int .i64 a0_1) := (bkC BK125.out 1).trans rfl; have hcz14_2 : w13.cell? ⟨gb125, 2, none⟩ = some (.int .i64 a0_2) := (bkC BK125.out 2).trans rfl; have hcz14_3 : w13.cell? ⟨gb125, 3, none⟩ = some (.int .i64 a0_3) := (bkC BK125.out 3).trans rfl; have hfz14_0 := bkF BK125.out 0; have hfz14_1 := bkF BK125.out 1; have hfz14_2 := bkF BK125.out 2; have hfz14_3 := bkF BK125.out 3))
    go_ret
    exact ⟨by first | rfl | (simp [errW_none, errW_some] <;> rfl) | (simp [*, errW_none, errW_some] <;> rfl), by repeat (first | (with_reducible first | exact HB.out | apply bwA | apply bwN | apply bw1 | refine bwS ?_ GE125.out) | exact HB.out)⟩
  ·rw [if_neg c3] at H
   have c3b0 : decide (a0_0 ≤ a0_2) = false := decide_eq_false c3
   clear c3
   obtain rfl := Option.some.inj H
   go_enter Tryz.func108, Tryz.ntmps108
   go_wp2_with (first | ((with_reducible refine gate_dst (N := 1) rfl ?_); refine box_event ?hg (N := 1) ?hd (cs := #[.int .i64 a0_0, .int .i64 a0_1, .int .i64 a0_2, .int .i64 a0_3]) (t := 23) ?hr ?_; (case hd => rfl); (case hg => rfl); (case hr => first | (go_simp; done) | (go_simp; rfl)); intro gb125 hg w15 hbox hb; have n0_ := Ad.mk (below_step (by repeat (first | (with_reducible first | exact HB.out | apply bwA | apply bwN | apply bw1) | exact HB.out)) hb); have n1_ := Ad.mk (hbox); have n2_ := Ad.mk ((by rw [hg]; exact (below_size (by repeat (first | (with_reducible first | exact HB.out | apply bwA | apply bwN | apply bw1) | exact HB.out))) : w.heap.size ≤ gb125)); have n3_ := Ad.mk ((by rw [hg]; exact (below_size (by repeat (first | (with_reducible first | exact HB.out | apply bwA | apply bwN | apply bw1) | exact HB.out))) : w.heap.size ≤ gb125)); clear HB; have HB := n0_; have BK125 := n1_; have GW125 := n2_; have GE125 := n3_; clear n0_ n1_ n2_ n3_; clear hb hbox hg; have hcz16_0 : w15.cell? ⟨gb125, 0, none⟩ = some (.int .i64 a0_0) := (bkC BK125.out 0).trans rfl; have hcz16_1 : w15.cell? ⟨gb125, 1, none⟩ = some (.int .i64 a0_1) := (bkC BK125.out 1).trans rfl; have hcz16_2 : w15.cell? ⟨gb125, 2, none⟩ = some (.int .i64 a0_2) := (bkC BK125.out 2).trans rfl; have hcz16_3 : w15.cell? ⟨gb125, 3, none⟩ = some (.int .i64 a0_3) := (bkC BK125.out 3).trans rfl; have hfz16_0 := bkF BK125.out 0; have hfz16_1 := bkF BK125.out 1; have hfz16_2 := bkF BK125.out 2; have hfz16_3 := bkF BK125.out 3))
   go_ret
   exact ⟨by first | rfl | (simp [errW_none, errW_some] <;> rfl) | (simp [*, errW_none, errW_some] <;> rfl), by repeat (first | (with_reducible first | exact HB.out | apply bwA | apply bwN | apply bw1 | refine bwS ?_ GE125.out) | exact HB.out)⟩
 ·rw [if_neg c2] at H
  have c2b0 : decide (0 ≤ a0_0) = false := decide_eq_false c2
  clear c2
  obtain rfl := Option.some.inj H
  go_enter Tryz.func108, Tryz.ntmps108
  go_wp2_with (first | ((with_reducible refine gate_dst (N := 1) rfl ?_); refine box_event ?hg (N := 1) ?hd (cs := #[.int .i64 a0_0, .int .i64 a0_1, .int .i64 a0_2, .int .i64 a0_3]) (t := 23) ?hr ?_; (case hd => rfl); (case hg => rfl); (case hr => first | (go_simp; done) | (go_simp; rfl)); intro gb125 hg w17 hbox hb; have n0_ := Ad.mk (below_step (by repeat (first | (with_reducible first | exact HB.out | apply bwA | apply bwN | apply bw1) | exact HB.out)) hb); have n1_ := Ad.mk (hbox); have n2_ := Ad.mk ((by rw [hg]; exact (below_size (by repeat (first | (with_reducible first | exact HB.out | apply bwA | apply bwN | apply bw1) | exact HB.out))) : w.heap.size ≤ gb125)); have n3_ := Ad.mk ((by rw [hg]; exact (below_size (by repeat (first | (with_reducible first | exact HB.out | apply bwA | apply bwN | apply bw1) | exact HB.out))) : w.heap.size ≤ gb125)); clear HB; have HB := n0_; have BK125 := n1_; have GW125 := n2_; have GE125 := n3_; clear n0_ n1_ n2_ n3_; clear hb hbox hg; have hcz18_0 : w17.cell? ⟨gb125, 0, none⟩ = some (.int .i64 a0_0) := (bkC BK125.out 0).trans rfl; have hcz18_1 : w17.cell? ⟨gb125, 1, none⟩ = some (.int .i64 a0_1) := (bkC BK125.out 1).trans rfl; have hcz18_2 : w17.cell? ⟨gb125, 2, none⟩ = some (.int .i64 a0_2) := (bkC BK125.out 2).trans rfl; have hcz18_3 : w17.cell? ⟨gb125, 3, none⟩ = some (.int .i64 a0_3) := (bkC BK125.out 3).trans rfl; have hfz18_0 := bkF BK125.out 0; have hfz18_1 := bkF BK125.out 1; have hfz18_2 := bkF BK125.out 2; have hfz18_3 := bkF BK125.out 3))
  go_ret
  exact ⟨by first | rfl | (simp [errW_none, errW_some] <;> rfl) | (simp [*, errW_none, errW_some] <;> rfl), by repeat (first | (with_reducible first | exact HB.out | apply bwA | apply bwN | apply bw1 | refine bwS ?_ GE125.out) | exact HB.out)⟩
end Go.Proofs.YthnndjlccepebaaGreatDoor.PHeavy
namespace Go.Proofs.YthnndjlccepebaaGreatDoor.PHeavy
open Go.RowKit Go.Proofs.YthnndjlccepebaaGreatDoorW.PrintWords Go.Proofs.YthnndjlccepebaaGreatDoorW.PrintLast

mutual
def r07_Meet.j0 : Nat → Bool → Int → Int → Int → Int → Int → Int → Int → Int → Option (Int × Int × Int × Int × Bool)
 | 0, _, _, _, _, _, _, _, _, _ => none
 | k + 1, x13, x127000, x127001, x127002, x127003, x128000, x128001, x128002, x128003 => if x13 = true then (some (0, 0, 0, 0, false)) else (if x128000 > x127000 then (r07_Meet.j1 k x128000 x127001 x127002 x127003 x128000 x128001 x128002 x128003) else (r07_Meet.j1 k x127000 x127001 x127002 x127003 x128000 x128001 x128002 x128003))
def r07_Meet.j1 : Nat → Int → Int → Int → Int → Int → Int → Int → Int → Option (Int × Int × Int × Int × Bool)
 | 0, _, _, _, _, _, _, _, _ => none
 | k + 1, x127000, x127001, x127002, x127003, x128000, x128001, x128002, x128003 => if x128001 > x127001 then (r07_Meet.j2 k x127000 x128001 x127002 x127003 x128000 x128001 x128002 x128003) else (r07_Meet.j2 k x127000 x127001 x127002 x127003 x128000 x128001 x128002 x128003)
def r07_Meet.j2 : Nat → Int → Int → Int → Int → Int → Int → Int → Int → Option (Int × Int × Int × Int × Bool)
 | 0, _, _, _, _, _, _, _, _ => none
 | k + 1, x127000, x127001, x127002, x127003, x128000, x128001, x128002, x128003 => if x128002 < x127002 then (r07_Meet.j3 k x127000 x127001 x128002 x127003 x128000 x128001 x128002 x128003) else (r07_Meet.j3 k x127000 x127001 x127002 x127003 x128000 x128001 x128002 x128003)
def r07_Meet.j3 : Nat → Int → Int → Int → Int → Int → Int → Int → Int → Option (Int × Int × Int × Int × Bool)
 | 0, _, _, _, _, _, _, _, _ => none
 | k + 1, x127000, x127001, x127002, x127003, x128000, x128001, x128002, x128003 => if x128003 < x127003 then (if x127000 > x127002 then (some (0, 0, 0, 0, false)) else (if x127001 > x128003 then (some (0, 0, 0, 0, false)) else (some (x127000, x127001, x127002, x128003, true)))) else (if x127000 > x127002 then (some (0, 0, 0, 0, false)) else (if x127001 > x127003 then (some (0, 0, 0, 0, false)) else (some (x127000, x127001, x127002, x127003, true))))
end
def r07_Meet.f (k : Nat) (a0_0 : Int) (a0_1 : Int) (a0_2 : Int) (a0_3 : Int) (a1_0 : Int) (a1_1 : Int) (a1_2 : Int) (a1_3 : Int) : Option (Int × Int × Int × Int × Bool) := (r07_Right.f a0_0 a0_1 a0_2 a0_3).bind fun t129 => (if t129 = true then ((r07_Right.f a1_0 a1_1 a1_2 a1_3).bind fun t130 => (r07_Meet.j0 k (!t130) a0_0 a0_1 a0_2 a0_3 a1_0 a1_1 a1_2 a1_3)) else (r07_Meet.j0 k true a0_0 a0_1 a0_2 a0_3 a1_0 a1_1 a1_2 a1_3))
set_option maxHeartbeats 8000000 in
set_option maxRecDepth 100000 in
theorem r07_Meet.calls (k : Nat) (a0_0 : Int) (a0_1 : Int) (a0_2 : Int) (a0_3 : Int) (a1_0 : Int) (a1_1 : Int) (a1_2 : Int) (a1_3 : Int) (r1 : Int) (r2 : Int) (r3 : Int) (r4 : Int) (r5 : Bool) (w : World) (h : r07_Meet.f k a0_0 a0_1 a0_2 a0_3 a1_0 a1_1 a1_2 a1_3 = some (r1, r2, r3, r4, r5)) :
  Calls Tryz.prog 103 #[.agg #[.int .i64 a0_0, .int .i64 a0_1, .int .i64 a0_2, .int .i64 a0_3], .agg #[.int .i64 a1_0, .int .i64 a1_1, .int .i64 a1_2, .int .i64 a1_3]] w fun e w' => e = .returned (.tuple #[.agg #[.int .i64 r1, .int .i64 r2, .int .i64 r3, .int .i64 r4], .bool r5]) ∧ Below w.heap.size w w' := by
 have hu23 := Tryz.underlying23
 have HB := Ad.mk (Below.refl w.heap.size w)
 have H : ((r07_Right.f a0_0 a0_1 a0_2 a0_3).bind fun t129 => (if t129 = true then ((r07_Right.f a1_0 a1_1 a1_2 a1_3).bind fun t130 => (r07_Meet.j0 k (!t130) a0_0 a0_1 a0_2 a0_3 a1_0 a1_1 a1_2 a1_3)) else (r07_Meet.j0 k true a0_0 a0_1 a0_2 a0_3 a1_0 a1_1 a1_2 a1_3))) = some (r1, r2, r3, r4, r5) := h
 clear h
 have HC3 := Ad.mk H
 clear H
 go_enter Tryz.func103, Tryz.ntmps103
 go_upto_region 1 with (first | ((with_reducible refine gate_dst (N := 2) rfl ?_); refine box_event ?hg (N := 2) ?hd (cs := #[.int .i64 a0_0, .int .i64 a0_1, .int .i64 a0_2, .int .i64 a0_3]) (t := 23) ?hr ?_; (case hd => rfl); (case hg => rfl); (case hr => first | (go_simp; done) | (go_simp; rfl)); intro gb126 hg w4 hbox hb; have n0_ := Ad.mk (below_step (by repeat (first | (with_reducible first | exact HB.out | apply bwA | apply bwN | apply bw1) | exact HB.out)) hb); have n1_ := Ad.mk (hbox); have n2_ := Ad.mk ((by rw [hg]; exact (below_size (by repeat (first | (with_reducible first | exact HB.out | apply bwA | apply bwN | apply bw1) | exact HB.out))) : w.heap.size ≤ gb126)); have n3_ := Ad.mk ((by rw [hg]; exact (below_size (by repeat (first | (with_reducible first | exact HB.out | apply bwA | apply bwN | apply bw1) | exact HB.out))) : w.heap.size ≤ gb126)); clear HB; have HB := n0_; have BK126 := n1_; have GW126 := n2_; have GE126 := n3_; clear n0_ n1_ n2_ n3_; clear hb hbox hg) | ((with_reducible refine gate_dst (N := 3) rfl ?_); refine box_event ?hg (N := 3) ?hd (cs := #[.int .i64 a1_0, .int .i64 a1_1, .int .i64 a1_2, .int .i64 a1_3]) (t := 23) ?hr ?_; (case hd => rfl); (case hg => rfl); (case hr => first | (go_simp; done) | (go_simp; rfl)); intro gb127 hg w5 hbox hb; have n0_ := Ad.mk (blk_below (g := gb126) (o := .cells #[.int .i64 a0_0, .int .i64 a0_1, .int .i64 a0_2, .int .i64 a0_3] 23 (0, 0)) (by (with_reducible repeat (first | refine bkN ?_ _ | refine bkD ?_ | refine bkA ?_ _)); exact BK126.out) hb); have n1_ := Ad.mk (below_step (by repeat (first | (with_reducible first | exact HB.out | apply bwA | apply bwN | apply bw1 | refine bwS ?_ GE126.out) | exact HB.out)) hb); have n2_ := Ad.mk (hbox); have n3_ := Ad.mk ((by rw [hg]; exact (below_size (by repeat (first | (with_reducible first | exact HB.out | apply bwA | apply bwN | apply bw1 | refine bwS ?_ GE126.out) | exact HB.out))) : w.heap.size ≤ gb127)); have n4_ := Ad.mk ((by rw [hg]; exact (below_size (by repeat (first | (with_reducible first | exact HB.out | apply bwA | apply bwN | apply bw1 | refine bwS ?_ GE126.out) | exact HB.out))) : w.heap.size ≤ gb127)); have n5_ := Ad.mk ((by rw [hg]; exact Nat.ne_of_lt (blk_lt (g := gb126) (o := .cells #[.int .i64 a0_0, .int .i64 a0_1, .int .i64 a0_2, .int .i64 a0_3] 23 (0, 0)) (by (with_reducible repeat (first | refine bkN ?_ _ | refine bkD ?_ | refine bkA ?_ _)); exact BK126.out)) : gb126 ≠ gb127)); have n6_ := Ad.mk ((by rw [hg]; exact Nat.ne_of_gt (blk_lt (g := gb126) (o := .cells #[.int .i64 a0_0, .int .i64 a0_1, .int .i64 a0_2, .int .i64 a0_3] 23 (0, 0)) (by (with_reducible repeat (first | refine bkN ?_ _ | refine bkD ?_ | refine bkA ?_ _)); exact BK126.out)) : gb127 ≠ gb126)); clear BK126; clear HB; have BK126 := n0_; have HB := n1_; have BK127 := n2_; have GW127 := n3_; have GE127 := n4_; have NB126_127 := n5_; have NB127_126 := n6_; clear n0_ n1_ n2_ n3_ n4_ n5_ n6_; clear hb hbox hg) | ((with_reducible refine gate_dst (N := 4) rfl ?_); refine box_event ?hg (N := 4) ?hd (cs := #[.int .i64 0, .int .i64 0, .int .i64 0, .int .i64 0]) (t := 23) ?hr ?_; (case hd => rfl); (case hg => rfl); (case hr => first | (go_simp; done) | (go_simp; rfl)); intro gb128 hg w6 hbox hb; have n0_ := Ad.mk (blk_below (g := gb126) (o := .cells #[.int .i64 a0_0, .int .i64 a0_1, .int .i64 a0_2, .int .i64 a0_3] 23 (0, 0)) (by (with_reducible repeat (first | refine bkN ?_ _ | refine bkD ?_ | refine bkA ?_ _)); exact BK126.out) hb); have n1_ := Ad.mk (blk_below (g := gb127) (o := .cells #[.int .i64 a1_0, .int .i64 a1_1, .int .i64 a1_2, .int .i64 a1_3] 23 (0, 0)) (by (with_reducible repeat (first | refine bkN ?_ _ | refine bkD ?_ | refine bkA ?_ _)); exact BK127.out) hb); have n2_ := Ad.mk (below_step (by repeat (first | (with_reducible first | exact HB.out | apply bwA | apply bwN | apply bw1 | refine bwS ?_ GE126.out | refine bwS ?_ GE127.out) | exact HB.out)) hb); have n3_ := Ad.mk (hbox); have n4_ := Ad.mk ((by rw [hg]; exact (below_size (by repeat (first | (with_reducible first | exact HB.out | apply bwA | apply bwN | apply bw1 | refine bwS ?_ GE126.out | refine bwS ?_ GE127.out) | exact HB.out))) : w.heap.size ≤ gb128)); have n5_ := Ad.mk ((by rw [hg]; exact (below_size (by repeat (first | (with_reducible first | exact HB.out | apply bwA | apply bwN | apply bw1 | refine bwS ?_ GE126.out | refine bwS ?_ GE127.out) | exact HB.out))) : w.heap.size ≤ gb128)); have n6_ := Ad.mk ((by rw [hg]; exact Nat.ne_of_lt (blk_lt (g := gb126) (o := .cells #[.int .i64 a0_0, .int .i64 a0_1, .int .i64 a0_2, .int .i64 a0_3] 23 (0, 0)) (by (with_reducible repeat (first | refine bkN ?_ _ | refine bkD ?_ | refine bkA ?_ _)); exact BK126.out)) : gb126 ≠ gb128)); have n7_ := Ad.mk ((by rw [hg]; exact Nat.ne_of_gt (blk_lt (g := gb126) (o := .cells #[.int .i64 a0_0, .int .i64 a0_1, .int .i64 a0_2, .int .i64 a0_3] 23 (0, 0)) (by (with_reducible repeat (first | refine bkN ?_ _ | refine bkD ?_ | refine bkA ?_ _)); exact BK126.out)) : gb128 ≠ gb126)); have n8_ := Ad.mk ((by rw [hg]; exact Nat.ne_of_lt (blk_lt (g := gb127) (o := .cells #[.int .i64 a1_0, .int .i64 a1_1, .int .i64 a1_2, .int .i64 a1_3] 23 (0, 0)) (by (with_reducible repeat (first | refine bkN ?_ _ | refine bkD ?_ | refine bkA ?_ _)); exact BK127.out)) : gb127 ≠ gb128)); have n9_ := Ad.mk ((by rw [hg]; exact Nat.ne_of_gt (blk_lt (g := gb127) (o := .cells #[.int .i64 a1_0, .int .i64 a1_1, .int .i64 a1_2, .int .i64 a1_3] 23 (0, 0)) (by (with_reducible repeat (first | refine bkN ?_ _ | refine bkD ?_ | refine bkA ?_ _)); exact BK127.out)) : gb128 ≠ gb127)); clear BK126; clear BK127; clear HB; have BK126 := n0_; have BK127 := n1_; have HB := n2_; have BK128 := n3_; have GW128 := n4_; have GE128 := n5_; have NB126_128 := n6_; have NB128_126 := n7_; have NB127_128 := n8_; have NB128_127 := n9_; clear n0_ n1_ n2_ n3_ n4_ n5_ n6_ n7_ n8_ n9_; clear hb hbox hg))
 (try simp only [Act.put, List.setIfInBounds_toArray, List.set_cons_zero, List.set_cons_succ])
 go_cut [13] (fun v13 wc => ∃ (kq : Nat) (x13_2 : Bool), v13 = .bool x13_2 ∧ Ad (r07_Meet.j0 kq x13_2 a0_0 a0_1 a0_2 a0_3 a1_0 a1_1 a1_2 a1_3 = some (r1, r2, r3, r4, r5)) ∧ Ad (kq ≤ k) ∧ Ad (wc.heap[gb126]? = some (.cells #[.int .i64 a0_0, .int .i64 a0_1, .int .i64 a0_2, .int .i64 a0_3] 23 (0, 0))) ∧ Ad (wc.heap[gb127]? = some (.cells #[.int .i64 a1_0, .int .i64 a1_1, .int .i64 a1_2, .int .i64 a1_3] 23 (0, 0))) ∧ Ad (wc.heap[gb128]? = some (.cells #[.int .i64 0, .int .i64 0, .int .i64 0, .int .i64 0] 23 (0, 0))) ∧ Ad (Below w.heap.size w wc))
 case first =>
  have H := HC3.out
  clear HC3
  replace H := Option.bind_eq_some_iff.mp H
  obtain ⟨t129, A70, H⟩ := H
  replace H : (if t129 = true then ((r07_Right.f a1_0 a1_1 a1_2 a1_3).bind fun t130 => (r07_Meet.j0 k (!t130) a0_0 a0_1 a0_2 a0_3 a1_0 a1_1 a1_2 a1_3)) else (r07_Meet.j0 k true a0_0 a0_1 a0_2 a0_3 a1_0 a1_1 a1_2 a1_3)) = some (r1, r2, r3, r4, r5) := H
  have A7 := Ad.mk A70
  clear A70
  by_cases c8 : t129 = true
  ·subst c8
   have H1 : ((r07_Right.f a1_0 a1_1 a1_2 a1_3).bind fun t130 => (r07_Meet.j0 k (!t130) a0_0 a0_1 a0_2 a0_3 a1_0 a1_1 a1_2 a1_3)) = some (r1, r2, r3, r4, r5) := by rw [if_pos rfl] at H; exact H
   clear H
   have H := H1
   clear H1
   replace H := Option.bind_eq_some_iff.mp H
   obtain ⟨t130, A90, H⟩ := H
   replace H : (r07_Meet.j0 k (!t130) a0_0 a0_1 a0_2 a0_3 a1_0 a1_1 a1_2 a1_3) = some (r1, r2, r3, r4, r5) := H
   have A9 := Ad.mk A90
   clear A90
   have H' := Ad.mk H
   clear H
   have hnb10 := NB126_127.out
   have hnc10 := NB127_126.out
   have hnb11 := NB126_128.out
   have hnc11 := NB128_126.out
   have hcz12_0 : w6.cell? ⟨gb126, 0, none⟩ = some (.int .i64 a0_0) := (bkC BK126.out 0).trans rfl
   have hcz12_1 : w6.cell? ⟨gb126, 1, none⟩ = some (.int .i64 a0_1) := (bkC BK126.out 1).trans rfl
   have hcz12_2 : w6.cell? ⟨gb126, 2, none⟩ = some (.int .i64 a0_2) := (bkC BK126.out 2).trans rfl
   have hcz12_3 : w6.cell? ⟨gb126, 3, none⟩ = some (.int .i64 a0_3) := (bkC BK126.out 3).trans rfl
   have hfz12_0 := bkF BK126.out 0
   have hfz12_1 := bkF BK126.out 1
   have hfz12_2 := bkF BK126.out 2
   have hfz12_3 := bkF BK126.out 3
   go_wp2_with (first | ((with_reducible refine gate_callee (f := 108) rfl ?_); refine goesL_ (some 7) rfl rfl Tryz.func108 (by kernel_rfl) rfl #[.agg #[.int .i64 a0_0, .int .i64 a0_1, .int .i64 a0_2, .int .i64 a0_3]] rfl (by (try simp only [List.map_toArray, List.map_cons, List.map_nil]); first | done | rfl | (simp only [List.length_drop, List.length_take]; rfl)) ?_; (with_reducible refine (r07_Right.calls a0_0 a0_1 a0_2 a0_3 true _ A7.out).mono ?_); rintro e w13 ⟨rfl, hb⟩; refine ⟨_, rfl, ?_⟩; have n0_ := Ad.mk (blk_below (g := gb126) (o := .cells #[.int .i64 a0_0, .int .i64 a0_1, .int .i64 a0_2, .int .i64 a0_3] 23 (0, 0)) (by (with_reducible repeat (first | refine bkN ?_ _ | refine bkD ?_ | refine bkA ?_ _)); exact BK126.out) hb); have n1_ := Ad.mk (blk_below (g := gb127) (o := .cells #[.int .i64 a1_0, .int .i64 a1_1, .int .i64 a1_2, .int .i64 a1_3] 23 (0, 0)) (by (with_reducible repeat (first | refine bkN ?_ _ | refine bkD ?_ | refine bkA ?_ _)); exact BK127.out) hb); have n2_ := Ad.mk (blk_below (g := gb128) (o := .cells #[.int .i64 0, .int .i64 0, .int .i64 0, .int .i64 0] 23 (0, 0)) (by (with_reducible repeat (first | refine bkN ?_ _ | refine bkD ?_ | refine bkA ?_ _)); exact BK128.out) hb); have n3_ := Ad.mk (below_step (by repeat (first | (with_reducible first | exact HB.out | apply bwA | apply bwN | apply bw1 | refine bwS ?_ GE126.out | refine bwS ?_ GE127.out | refine bwS ?_ GE128.out) | exact HB.out)) hb); clear BK126; clear BK127; clear BK128; clear HB; have BK126 := n0_; have BK127 := n1_; have BK128 := n2_; have HB := n3_; clear n0_ n1_ n2_ n3_; (try clear hb); (try clear hb2); (try clear hk); (try clear hi); have hnb14 := NB127_128.out; have hnc14 := NB128_127.out; have hcz15_0 : w13.cell? ⟨gb127, 0, none⟩ = some (.int .i64 a1_0) := (bkC BK127.out 0).trans rfl; have hcz15_1 : w13.cell? ⟨gb127, 1, none⟩ = some (.int .i64 a1_1) := (bkC BK127.out 1).trans rfl; have hcz15_2 : w13.cell? ⟨gb127, 2, none⟩ = some (.int .i64 a1_2) := (bkC BK127.out 2).trans rfl; have hcz15_3 : w13.cell? ⟨gb127, 3, none⟩ = some (.int .i64 a1_3) := (bkC BK127.out 3).trans rfl; have hfz15_0 := bkF BK127.out 0; have hfz15_1 := bkF BK127.out 1; have hfz15_2 := bkF BK127.out 2; have hfz15_3 := bkF BK127.out 3) | (go_at_call 108; (with_reducible refine (r07_Right.calls a1_0 a1_1 a1_2 a1_3 t130 _ A9.out).mono ?_); rintro e w16 ⟨rfl, hb⟩; have n0_ := Ad.mk (blk_below (g := gb126) (o := .cells #[.int .i64 a0_0, .int .i64 a0_1, .int .i64 a0_2, .int .i64 a0_3] 23 (0, 0)) (by (with_reducible repeat (first | refine bkN ?_ _ | refine bkD ?_ | refine bkA ?_ _)); exact BK126.out) hb); have n1_ := Ad.mk (blk_below (g := gb127) (o := .cells #[.int .i64 a1_0, .int .i64 a1_1, .int .i64 a1_2, .int .i64 a1_3] 23 (0, 0)) (by (with_reducible repeat (first | refine bkN ?_ _ | refine bkD ?_ | refine bkA ?_ _)); exact BK127.out) hb); have n2_ := Ad.mk (blk_below (g := gb128) (o := .cells #[.int .i64 0, .int .i64 0, .int .i64 0, .int .i64 0] 23 (0, 0)) (by (with_reducible repeat (first | refine bkN ?_ _ | refine bkD ?_ | refine bkA ?_ _)); exact BK128.out) hb); have n3_ := Ad.mk (below_step (by repeat (first | (with_reducible first | exact HB.out | apply bwA | apply bwN | apply bw1 | refine bwS ?_ GE126.out | refine bwS ?_ GE127.out | refine bwS ?_ GE128.out) | exact HB.out)) hb); clear BK126; clear BK127; clear BK128; clear HB; have BK126 := n0_; have BK127 := n1_; have BK128 := n2_; have HB := n3_; clear n0_ n1_ n2_ n3_; (try clear hb); (try clear hb2); (try clear hk); (try clear hi)))
   go_meet
   case rel => exact ⟨_, (!t130), (by first | rfl | (simp; done) | (simp [*]; done)), H', ⟨by first | omega | exact Nat.le_refl _⟩, ⟨by (with_reducible repeat (first | refine bkN ?_ _ | refine bkD ?_ | refine bkA ?_ _)); exact BK126.out⟩, ⟨by (with_reducible repeat (first | refine bkN ?_ _ | refine bkD ?_ | refine bkA ?_ _)); exact BK127.out⟩, ⟨by (with_reducible repeat (first | refine bkN ?_ _ | refine bkD ?_ | refine bkA ?_ _)); exact BK128.out⟩, ⟨by repeat (first | (with_reducible first | exact HB.out | apply bwA | apply bwN | apply bw1 | refine bwS ?_ GE126.out | refine bwS ?_ GE127.out | refine bwS ?_ GE128.out) | exact HB.out)⟩⟩
  ·replace c8 := Bool.eq_false_iff.mpr c8
   subst c8
   have H1 : (r07_Meet.j0 k true a0_0 a0_1 a0_2 a0_3 a1_0 a1_1 a1_2 a1_3) = some (r1, r2, r3, r4, r5) := by rw [if_neg (show ¬ (false = true) by decide)] at H; exact H
   clear H
   have H := H1
   clear H1
   have H' := Ad.mk H
   clear H
   have hnb17 := NB126_127.out
   have hnc17 := NB127_126.out
   have hnb18 := NB126_128.out
   have hnc18 := NB128_126.out
   have hcz19_0 : w6.cell? ⟨gb126, 0, none⟩ = some (.int .i64 a0_0) := (bkC BK126.out 0).trans rfl
   have hcz19_1 : w6.cell? ⟨gb126, 1, none⟩ = some (.int .i64 a0_1) := (bkC BK126.out 1).trans rfl
   have hcz19_2 : w6.cell? ⟨gb126, 2, none⟩ = some (.int .i64 a0_2) := (bkC BK126.out 2).trans rfl
   have hcz19_3 : w6.cell? ⟨gb126, 3, none⟩ = some (.int .i64 a0_3) := (bkC BK126.out 3).trans rfl
   have hfz19_0 := bkF BK126.out 0
   have hfz19_1 := bkF BK126.out 1
   have hfz19_2 := bkF BK126.out 2
   have hfz19_3 := bkF BK126.out 3
   go_wp2_with (first | ((with_reducible refine gate_callee (f := 108) rfl ?_); refine goesL_ (some 7) rfl rfl Tryz.func108 (by kernel_rfl) rfl #[.agg #[.int .i64 a0_0, .int .i64 a0_1, .int .i64 a0_2, .int .i64 a0_3]] rfl (by (try simp only [List.map_toArray, List.map_cons, List.map_nil]); first | done | rfl | (simp only [List.length_drop, List.length_take]; rfl)) ?_; (with_reducible refine (r07_Right.calls a0_0 a0_1 a0_2 a0_3 false _ A7.out).mono ?_); rintro e w20 ⟨rfl, hb⟩; refine ⟨_, rfl, ?_⟩; have n0_ := Ad.mk (blk_below (g := gb126) (o := .cells #[.int .i64 a0_0, .int .i64 a0_1, .int .i64 a0_2, .int .i64 a0_3] 23 (0, 0)) (by (with_reducible repeat (first | refine bkN ?_ _ | refine bkD ?_ | refine bkA ?_ _)); exact BK126.out) hb); have n1_ := Ad.mk (blk_below (g := gb127) (o := .cells #[.int .i64 a1_0, .int .i64 a1_1, .int .i64 a1_2, .int .i64 a1_3] 23 (0, 0)) (by (with_reducible repeat (first | refine bkN ?_ _ | refine bkD ?_ | refine bkA ?_ _)); exact BK127.out) hb); have n2_ := Ad.mk (blk_below (g := gb128) (o := .cells #[.int .i64 0, .int .i64 0, .int .i64 0, .int .i64 0] 23 (0, 0)) (by (with_reducible repeat (first | refine bkN ?_ _ | refine bkD ?_ | refine bkA ?_ _)); exact BK128.out) hb); have n3_ := Ad.mk (below_step (by repeat (first | (with_reducible first | exact HB.out | apply bwA | apply bwN | apply bw1 | refine bwS ?_ GE126.out | refine bwS ?_ GE127.out | refine bwS ?_ GE128.out) | exact HB.out)) hb); clear BK126; clear BK127; clear BK128; clear HB; have BK126 := n0_; have BK127 := n1_; have BK128 := n2_; have HB := n3_; clear n0_ n1_ n2_ n3_; (try clear hb); (try clear hb2); (try clear hk); (try clear hi)))
   go_meet
   case rel => exact ⟨_, (true), (by first | rfl | (simp; done) | (simp [*]; done)), H', ⟨by first | omega | exact Nat.le_refl _⟩, ⟨by (with_reducible repeat (first | refine bkN ?_ _ | refine bkD ?_ | refine bkA ?_ _)); exact BK126.out⟩, ⟨by (with_reducible repeat (first | refine bkN ?_ _ | refine bkD ?_ | refine bkA ?_ _)); exact BK127.out⟩, ⟨by (with_reducible repeat (first | refine bkN ?_ _ | refine bkD ?_ | refine bkA ?_ _)); exact BK128.out⟩, ⟨by repeat (first | (with_reducible first | exact HB.out | apply bwA | apply bwN | apply bw1 | refine bwS ?_ GE126.out | refine bwS ?_ GE127.out | refine bwS ?_ GE128.out) | exact HB.out)⟩⟩
 case rest =>
  clear HC3
  try clear c1
  try clear p2
  try clear c8
  try clear c10
  try clear c11
  try clear c14
  try clear c17
  try clear c18
  try clear hcz12_0
  try clear hcz12_1
  try clear hcz12_2
  try clear hcz12_3
  try clear hcz15_0
  try clear hcz15_1
  try clear hcz15_2
  try clear hcz15_3
  try clear hcz19_0
  try clear hcz19_1
  try clear hcz19_2
  try clear hcz19_3
  try clear hfz12_0
  try clear hfz12_1
  try clear hfz12_2
  try clear hfz12_3
  try clear hfz15_0
  try clear hfz15_1
  try clear hfz15_2
  try clear hfz15_3
  try clear hfz19_0
  try clear hfz19_1
  try clear hfz19_2
  try clear hfz19_3
  obtain ⟨kq, x13_2, rfl, HA, HJ2, BK126, BK127, BK128, HB⟩ := hcut
  cases kq with
  | zero => exact absurd HA.out (by simp [r07_Meet.j0])
  | succ kj2 =>
   have H := HA.out
   clear HA
   simp only [r07_Meet.j0] at H
   by_cases c21 : x13_2 = true
   ·subst c21
    have H1 : (some (0, 0, 0, 0, false)) = some (r1, r2, r3, r4, r5) := by rw [if_pos rfl] at H; exact H
    clear H
    have H := H1
    clear H1
    simp only [Option.some.injEq, Prod.mk.injEq] at H
    obtain ⟨rfl, rfl, rfl, rfl, rfl⟩ := H
    have hnb22 := NB128_126.out
    have hnc22 := NB126_128.out
    have hnb23 := NB128_127.out
    have hnc23 := NB127_128.out
    have hcz24_0 : wc.cell? ⟨gb128, 0, none⟩ = some (.int .i64 0) := (bkC BK128.out 0).trans rfl
    have hcz24_1 : wc.cell? ⟨gb128, 1, none⟩ = some (.int .i64 0) := (bkC BK128.out 1).trans rfl
    have hcz24_2 : wc.cell? ⟨gb128, 2, none⟩ = some (.int .i64 0) := (bkC BK128.out 2).trans rfl
    have hcz24_3 : wc.cell? ⟨gb128, 3, none⟩ = some (.int .i64 0) := (bkC BK128.out 3).trans rfl
    have hfz24_0 := bkF BK128.out 0
    have hfz24_1 := bkF BK128.out 1
    have hfz24_2 := bkF BK128.out 2
    have hfz24_3 := bkF BK128.out 3
    go_wp2
    refine bodyPost_ret (results_ct rfl _ _ gb128 23 #[.int .i64 0, .int .i64 0, .int .i64 0, .int .i64 0] (0, 0) _ rfl (by (with_reducible repeat (first | refine bkN ?_ _ | refine bkD ?_ | refine bkA ?_ _)); refine blk_put (cs := #[.int .i64 0, .int .i64 0, .int .i64 0, .int .i64 0]) ?_ 3 _ rfl; (with_reducible repeat (first | refine bkN ?_ _ | refine bkD ?_ | refine bkA ?_ _)); refine blk_put (cs := #[.int .i64 0, .int .i64 0, .int .i64 0, .int .i64 0]) ?_ 2 _ rfl; (with_reducible repeat (first | refine bkN ?_ _ | refine bkD ?_ | refine bkA ?_ _)); refine blk_put (cs := #[.int .i64 0, .int .i64 0, .int .i64 0, .int .i64 0]) ?_ 1 _ rfl; (with_reducible repeat (first | refine bkN ?_ _ | refine bkD ?_ | refine bkA ?_ _)); refine blk_put (cs := #[.int .i64 0, .int .i64 0, .int .i64 0, .int .i64 0]) ?_ 0 _ rfl; (with_reducible repeat (first | refine bkN ?_ _ | refine bkD ?_ | refine bkA ?_ _)); exact BK128.out) Tryz.underlying23 rfl (by kernel_rfl)) rfl ?_
    exact ⟨by first | rfl | (simp [errW_none, errW_some] <;> rfl) | (simp [*, errW_none, errW_some] <;> rfl), by repeat (first | (with_reducible first | exact HB.out | apply bwA | apply bwN | apply bw1 | refine bwS ?_ GE126.out | refine bwS ?_ GE127.out | refine bwS ?_ GE128.out) | exact HB.out)⟩
   ·replace c21 := Bool.eq_false_iff.mpr c21
    subst c21
    have H1 : (if a1_0 > a0_0 then (r07_Meet.j1 kj2 a1_0 a0_1 a0_2 a0_3 a1_0 a1_1 a1_2 a1_3) else (r07_Meet.j1 kj2 a0_0 a0_1 a0_2 a0_3 a1_0 a1_1 a1_2 a1_3)) = some (r1, r2, r3, r4, r5) := by rw [if_neg (show ¬ (false = true) by decide)] at H; exact H
    clear H
    have H := H1
    clear H1
    have HC25 := Ad.mk H
    clear H
    have hnb26 := NB127_126.out
    have hnc26 := NB126_127.out
    have hnb27 := NB127_128.out
    have hnc27 := NB128_127.out
    have hcz28_0 : wc.cell? ⟨gb127, 0, none⟩ = some (.int .i64 a1_0) := (bkC BK127.out 0).trans rfl
    have hcz28_1 : wc.cell? ⟨gb127, 1, none⟩ = some (.int .i64 a1_1) := (bkC BK127.out 1).trans rfl
    have hcz28_2 : wc.cell? ⟨gb127, 2, none⟩ = some (.int .i64 a1_2) := (bkC BK127.out 2).trans rfl
    have hcz28_3 : wc.cell? ⟨gb127, 3, none⟩ = some (.int .i64 a1_3) := (bkC BK127.out 3).trans rfl
    have hfz28_0 := bkF BK127.out 0
    have hfz28_1 := bkF BK127.out 1
    have hfz28_2 := bkF BK127.out 2
    have hfz28_3 := bkF BK127.out 3
    have hnb29 := NB126_128.out
    have hnc29 := NB128_126.out
    have hcz30_0 : wc.cell? ⟨gb126, 0, none⟩ = some (.int .i64 a0_0) := (bkC BK126.out 0).trans rfl
    have hcz30_1 : wc.cell? ⟨gb126, 1, none⟩ = some (.int .i64 a0_1) := (bkC BK126.out 1).trans rfl
    have hcz30_2 : wc.cell? ⟨gb126, 2, none⟩ = some (.int .i64 a0_2) := (bkC BK126.out 2).trans rfl
    have hcz30_3 : wc.cell? ⟨gb126, 3, none⟩ = some (.int .i64 a0_3) := (bkC BK126.out 3).trans rfl
    have hfz30_0 := bkF BK126.out 0
    have hfz30_1 := bkF BK126.out 1
    have hfz30_2 := bkF BK126.out 2
    have hfz30_3 := bkF BK126.out 3
    go_upto_if 19 with (fail)
    go_cut [] (fun wc => ∃ (kq : Nat) (x127000_24 : Int), Ad (r07_Meet.j1 kq x127000_24 a0_1 a0_2 a0_3 a1_0 a1_1 a1_2 a1_3 = some (r1, r2, r3, r4, r5)) ∧ Ad (kq ≤ kj2) ∧ Ad (wc.heap[gb126]? = some (.cells #[.int .i64 x127000_24, .int .i64 a0_1, .int .i64 a0_2, .int .i64 a0_3] 23 (0, 0))) ∧ Ad (wc.heap[gb127]? = some (.cells #[.int .i64 a1_0, .int .i64 a1_1, .int .i64 a1_2, .int .i64 a1_3] 23 (0, 0))) ∧ Ad (wc.heap[gb128]? = some (.cells #[.int .i64 0, .int .i64 0, .int .i64 0, .int .i64 0] 23 (0, 0))) ∧ Ad (Below w.heap.size w wc))
    case first =>
     have H := HC25.out
     clear HC25
     by_cases c31 : a1_0 > a0_0
     ·rw [if_pos c31] at H
      have c31b0 : decide (a0_0 < a1_0) = true := decide_eq_true c31
      clear c31
      (first | rw [c31b0] | (simp only [i64_w]; rw [c31b0]) | skip)
      have H' := Ad.mk H
      clear H
      have hnb32 := NB127_126.out
      have hnc32 := NB126_127.out
      have hnb33 := NB127_128.out
      have hnc33 := NB128_127.out
      have hcz34_0 : wc.cell? ⟨gb127, 0, none⟩ = some (.int .i64 a1_0) := (bkC BK127.out 0).trans rfl
      have hcz34_1 : wc.cell? ⟨gb127, 1, none⟩ = some (.int .i64 a1_1) := (bkC BK127.out 1).trans rfl
      have hcz34_2 : wc.cell? ⟨gb127, 2, none⟩ = some (.int .i64 a1_2) := (bkC BK127.out 2).trans rfl
      have hcz34_3 : wc.cell? ⟨gb127, 3, none⟩ = some (.int .i64 a1_3) := (bkC BK127.out 3).trans rfl
      have hfz34_0 := bkF BK127.out 0
      have hfz34_1 := bkF BK127.out 1
      have hfz34_2 := bkF BK127.out 2
      have hfz34_3 := bkF BK127.out 3
      have hnb35 := NB126_128.out
      have hnc35 := NB128_126.out
      have hcz36_0 : wc.cell? ⟨gb126, 0, none⟩ = some (.int .i64 a0_0) := (bkC BK126.out 0).trans rfl
      have hcz36_1 : wc.cell? ⟨gb126, 1, none⟩ = some (.int .i64 a0_1) := (bkC BK126.out 1).trans rfl
      have hcz36_2 : wc.cell? ⟨gb126, 2, none⟩ = some (.int .i64 a0_2) := (bkC BK126.out 2).trans rfl
      have hcz36_3 : wc.cell? ⟨gb126, 3, none⟩ = some (.int .i64 a0_3) := (bkC BK126.out 3).trans rfl
      have hfz36_0 := bkF BK126.out 0
      have hfz36_1 := bkF BK126.out 1
      have hfz36_2 := bkF BK126.out 2
      have hfz36_3 := bkF BK126.out 3
      go_wp2
      go_meet
      case rel => exact ⟨_, (a1_0), H', ⟨by have := HJ2.out; first | omega | exact Nat.le_refl _⟩, ⟨by (with_reducible repeat (first | refine bkN ?_ _ | refine bkD ?_ | refine bkA ?_ _)); refine blk_put (cs := #[.int .i64 a0_0, .int .i64 a0_1, .int .i64 a0_2, .int .i64 a0_3]) ?_ 0 _ rfl; (with_reducible repeat (first | refine bkN ?_ _ | refine bkD ?_ | refine bkA ?_ _)); exact BK126.out⟩, ⟨by (with_reducible repeat (first | refine bkN ?_ _ | refine bkD ?_ | refine bkA ?_ _)); refine blk_far ?_ NB127_126.out _; (with_reducible repeat (first | refine bkN ?_ _ | refine bkD ?_ | refine bkA ?_ _)); exact BK127.out⟩, ⟨by (with_reducible repeat (first | refine bkN ?_ _ | refine bkD ?_ | refine bkA ?_ _)); refine blk_far ?_ NB128_126.out _; (with_reducible repeat (first | refine bkN ?_ _ | refine bkD ?_ | refine bkA ?_ _)); exact BK128.out⟩, ⟨by repeat (first | (with_reducible first | exact HB.out | apply bwA | apply bwN | apply bw1 | refine bwS ?_ GE126.out | refine bwS ?_ GE127.out | refine bwS ?_ GE128.out) | exact HB.out)⟩⟩
     ·rw [if_neg c31] at H
      have c31b0 : decide (a0_0 < a1_0) = false := decide_eq_false c31
      clear c31
      (first | rw [c31b0] | (simp only [i64_w]; rw [c31b0]) | skip)
      have H' := Ad.mk H
      clear H
      go_wp2
      go_meet
      case rel => exact ⟨_, (a0_0), H', ⟨by have := HJ2.out; first | omega | exact Nat.le_refl _⟩, ⟨by (with_reducible repeat (first | refine bkN ?_ _ | refine bkD ?_ | refine bkA ?_ _)); exact BK126.out⟩, ⟨by (with_reducible repeat (first | refine bkN ?_ _ | refine bkD ?_ | refine bkA ?_ _)); exact BK127.out⟩, ⟨by (with_reducible repeat (first | refine bkN ?_ _ | refine bkD ?_ | refine bkA ?_ _)); exact BK128.out⟩, ⟨by repeat (first | (with_reducible first | exact HB.out | apply bwA | apply bwN | apply bw1 | refine bwS ?_ GE126.out | refine bwS ?_ GE127.out | refine bwS ?_ GE128.out) | exact HB.out)⟩⟩
    case rest =>
     clear HC25
     try clear c1
     try clear c2
     try clear p2
     try clear c3
     try clear c8
     try clear c10
     try clear c11
     try clear c14
     try clear c17
     try clear c18
     try clear c21
     try clear c22
     try clear c23
     try clear c26
     try clear c27
     try clear c29
     try clear c31
     try clear c31b0
     try clear c32
     try clear c33
     try clear c35
     try clear hcz12_0
     try clear hcz12_1
     try clear hcz12_2
     try clear hcz12_3
     try clear hcz15_0
     try clear hcz15_1
     try clear hcz15_2
     try clear hcz15_3
     try clear hcz19_0
     try clear hcz19_1
     try clear hcz19_2
     try clear hcz19_3
     try clear hcz24_0
     try clear hcz24_1
     try clear hcz24_2
     try clear hcz24_3
     try clear hcz28_0
     try clear hcz28_1
     try clear hcz28_2
     try clear hcz28_3
     try clear hcz30_0
     try clear hcz30_1
     try clear hcz30_2
     try clear hcz30_3
     try clear hcz34_0
     try clear hcz34_1
     try clear hcz34_2
     try clear hcz34_3
     try clear hcz36_0
     try clear hcz36_1
     try clear hcz36_2
     try clear hcz36_3
     try clear hfz12_0
     try clear hfz12_1
     try clear hfz12_2
     try clear hfz12_3
     try clear hfz15_0
     try clear hfz15_1
     try clear hfz15_2
     try clear hfz15_3
     try clear hfz19_0
     try clear hfz19_1
     try clear hfz19_2
     try clear hfz19_3
     try clear hfz24_0
     try clear hfz24_1
     try clear hfz24_2
     try clear hfz24_3
     try clear hfz28_0
     try clear hfz28_1
     try clear hfz28_2
     try clear hfz28_3
     try clear hfz30_0
     try clear hfz30_1
     try clear hfz30_2
     try clear hfz30_3
     try clear hfz34_0
     try clear hfz34_1
     try clear hfz34_2
     try clear hfz34_3
     try clear hfz36_0
     try clear hfz36_1
     try clear hfz36_2
     try clear hfz36_3
     try clear p2
     obtain ⟨kq, x127000_24, HA, HJ24, BK126, BK127, BK128, HB⟩ := hcut
     cases kq with
     | zero => exact absurd HA.out (by simp [r07_Meet.j1])
     | succ kj24 =>
      have H := HA.out
      clear HA
      simp only [r07_Meet.j1] at H
      have HC37 := Ad.mk H
      clear H
      have hnb38 := NB127_126.out
      have hnc38 := NB126_127.out
      have hnb39 := NB127_128.out
      have hnc39 := NB128_127.out
      have hcz40_0 : wc.cell? ⟨gb127, 0, none⟩ = some (.int .i64 a1_0) := (bkC BK127.out 0).trans rfl
      have hcz40_1 : wc.cell? ⟨gb127, 1, none⟩ = some (.int .i64 a1_1) := (bkC BK127.out 1).trans rfl
      have hcz40_2 : wc.cell? ⟨gb127, 2, none⟩ = some (.int .i64 a1_2) := (bkC BK127.out 2).trans rfl
      have hcz40_3 : wc.cell? ⟨gb127, 3, none⟩ = some (.int .i64 a1_3) := (bkC BK127.out 3).trans rfl
      have hfz40_0 := bkF BK127.out 0
      have hfz40_1 := bkF BK127.out 1
      have hfz40_2 := bkF BK127.out 2
      have hfz40_3 := bkF BK127.out 3
      have hnb41 := NB126_128.out
      have hnc41 := NB128_126.out
      have hcz42_0 : wc.cell? ⟨gb126, 0, none⟩ = some (.int .i64 x127000_24) := (bkC BK126.out 0).trans rfl
      have hcz42_1 : wc.cell? ⟨gb126, 1, none⟩ = some (.int .i64 a0_1) := (bkC BK126.out 1).trans rfl
      have hcz42_2 : wc.cell? ⟨gb126, 2, none⟩ = some (.int .i64 a0_2) := (bkC BK126.out 2).trans rfl
      have hcz42_3 : wc.cell? ⟨gb126, 3, none⟩ = some (.int .i64 a0_3) := (bkC BK126.out 3).trans rfl
      have hfz42_0 := bkF BK126.out 0
      have hfz42_1 := bkF BK126.out 1
      have hfz42_2 := bkF BK126.out 2
      have hfz42_3 := bkF BK126.out 3
      go_upto_if 27 with (fail)
      go_cut [] (fun wc => ∃ (kq : Nat) (x127001_36 : Int), Ad (r07_Meet.j2 kq x127000_24 x127001_36 a0_2 a0_3 a1_0 a1_1 a1_2 a1_3 = some (r1, r2, r3, r4, r5)) ∧ Ad (kq ≤ kj24) ∧ Ad (wc.heap[gb126]? = some (.cells #[.int .i64 x127000_24, .int .i64 x127001_36, .int .i64 a0_2, .int .i64 a0_3] 23 (0, 0))) ∧ Ad (wc.heap[gb127]? = some (.cells #[.int .i64 a1_0, .int .i64 a1_1, .int .i64 a1_2, .int .i64 a1_3] 23 (0, 0))) ∧ Ad (wc.heap[gb128]? = some (.cells #[.int .i64 0, .int .i64 0, .int .i64 0, .int .i64 0] 23 (0, 0))) ∧ Ad (Below w.heap.size w wc))
      case first =>
       have H := HC37.out
       clear HC37
       by_cases c43 : a1_1 > a0_1
       ·rw [if_pos c43] at H
        have c43b0 : decide (a0_1 < a1_1) = true := decide_eq_true c43
        clear c43
        (first | rw [c43b0] | (simp only [i64_w]; rw [c43b0]) | skip)
        have H' := Ad.mk H
        clear H
        have hnb44 := NB127_126.out
        have hnc44 := NB126_127.out
        have hnb45 := NB127_128.out
        have hnc45 := NB128_127.out
        have hcz46_0 : wc.cell? ⟨gb127, 0, none⟩ = some (.int .i64 a1_0) := (bkC BK127.out 0).trans rfl
        have hcz46_1 : wc.cell? ⟨gb127, 1, none⟩ = some (.int .i64 a1_1) := (bkC BK127.out 1).trans rfl
        have hcz46_2 : wc.cell? ⟨gb127, 2, none⟩ = some (.int .i64 a1_2) := (bkC BK127.out 2).trans rfl
        have hcz46_3 : wc.cell? ⟨gb127, 3, none⟩ = some (.int .i64 a1_3) := (bkC BK127.out 3).trans rfl
        have hfz46_0 := bkF BK127.out 0
        have hfz46_1 := bkF BK127.out 1
        have hfz46_2 := bkF BK127.out 2
        have hfz46_3 := bkF BK127.out 3
        have hnb47 := NB126_128.out
        have hnc47 := NB128_126.out
        have hcz48_0 : wc.cell? ⟨gb126, 0, none⟩ = some (.int .i64 x127000_24) := (bkC BK126.out 0).trans rfl
        have hcz48_1 : wc.cell? ⟨gb126, 1, none⟩ = some (.int .i64 a0_1) := (bkC BK126.out 1).trans rfl
        have hcz48_2 : wc.cell? ⟨gb126, 2, none⟩ = some (.int .i64 a0_2) := (bkC BK126.out 2).trans rfl
        have hcz48_3 : wc.cell? ⟨gb126, 3, none⟩ = some (.int .i64 a0_3) := (bkC BK126.out 3).trans rfl
        have hfz48_0 := bkF BK126.out 0
        have hfz48_1 := bkF BK126.out 1
        have hfz48_2 := bkF BK126.out 2
        have hfz48_3 := bkF BK126.out 3
        go_wp2
        go_meet
        case rel => exact ⟨_, (a1_1), H', ⟨by have := HJ2.out; have := HJ24.out; first | omega | exact Nat.le_refl _⟩, ⟨by (with_reducible repeat (first | refine bkN ?_ _ | refine bkD ?_ | refine bkA ?_ _)); refine blk_put (cs := #[.int .i64 x127000_24, .int .i64 a0_1, .int .i64 a0_2, .int .i64 a0_3]) ?_ 1 _ rfl; (with_reducible repeat (first | refine bkN ?_ _ | refine bkD ?_ | refine bkA ?_ _)); exact BK126.out⟩, ⟨by (with_reducible repeat (first | refine bkN ?_ _ | refine bkD ?_ | refine bkA ?_ _)); refine blk_far ?_ NB127_126.out _; (with_reducible repeat (first | refine bkN ?_ _ | refine bkD ?_ | refine bkA ?_ _)); exact BK127.out⟩, ⟨by (with_reducible repeat (first | refine bkN ?_ _ | refine bkD ?_ | refine bkA ?_ _)); refine blk_far ?_ NB128_126.out _; (with_reducible repeat (first | refine bkN ?_ _ | refine bkD ?_ | refine bkA ?_ _)); exact BK128.out⟩, ⟨by repeat (first | (with_reducible first | exact HB.out | apply bwA | apply bwN | apply bw1 | refine bwS ?_ GE126.out | refine bwS ?_ GE127.out | refine bwS ?_ GE128.out) | exact HB.out)⟩⟩
       ·rw [if_neg c43] at H
        have c43b0 : decide (a0_1 < a1_1) = false := decide_eq_false c43
        clear c43
        (first | rw [c43b0] | (simp only [i64_w]; rw [c43b0]) | skip)
        have H' := Ad.mk H
        clear H
        go_wp2
        go_meet
        case rel => exact ⟨_, (a0_1), H', ⟨by have := HJ2.out; have := HJ24.out; first | omega | exact Nat.le_refl _⟩, ⟨by (with_reducible repeat (first | refine bkN ?_ _ | refine bkD ?_ | refine bkA ?_ _)); exact BK126.out⟩, ⟨by (with_reducible repeat (first | refine bkN ?_ _ | refine bkD ?_ | refine bkA ?_ _)); exact BK127.out⟩, ⟨by (with_reducible repeat (first | refine bkN ?_ _ | refine bkD ?_ | refine bkA ?_ _)); exact BK128.out⟩, ⟨by repeat (first | (with_reducible first | exact HB.out | apply bwA | apply bwN | apply bw1 | refine bwS ?_ GE126.out | refine bwS ?_ GE127.out | refine bwS ?_ GE128.out) | exact HB.out)⟩⟩
      case rest =>
       clear HC37
       try clear c1
       try clear c2
       try clear p2
       try clear c3
       try clear c4
       try clear c8
       try clear c10
       try clear c11
       try clear c14
       try clear c17
       try clear c18
       try clear c21
       try clear c22
       try clear c23
       try clear c26
       try clear c27
       try clear c29
       try clear c31
       try clear c31b0
       try clear c32
       try clear c33
       try clear c35
       try clear c38
       try clear c39
       try clear c41
       try clear c43
       try clear c43b0
       try clear c44
       try clear c45
       try clear c47
       try clear hcz12_0
       try clear hcz12_1
       try clear hcz12_2
       try clear hcz12_3
       try clear hcz15_0
       try clear hcz15_1
       try clear hcz15_2
       try clear hcz15_3
       try clear hcz19_0
       try clear hcz19_1
       try clear hcz19_2
       try clear hcz19_3
       try clear hcz24_0
       try clear hcz24_1
       try clear hcz24_2
       try clear hcz24_3
       try clear hcz28_0
       try clear hcz28_1
       try clear hcz28_2
       try clear hcz28_3
       try clear hcz30_0
       try clear hcz30_1
       try clear hcz30_2
       try clear hcz30_3
       try clear hcz34_0
       try clear hcz34_1
       try clear hcz34_2
       try clear hcz34_3
       try clear hcz36_0
       try clear hcz36_1
       try clear hcz36_2
       try clear hcz36_3
       try clear hcz40_0
       try clear hcz40_1
       try clear hcz40_2
       try clear hcz40_3
       try clear hcz42_0
       try clear hcz42_1
       try clear hcz42_2
       try clear hcz42_3
       try clear hcz46_0
       try clear hcz46_1
       try clear hcz46_2
       try clear hcz46_3
       try clear hcz48_0
       try clear hcz48_1
       try clear hcz48_2
       try clear hcz48_3
       try clear hfz12_0
       try clear hfz12_1
       try clear hfz12_2
       try clear hfz12_3
       try clear hfz15_0
       try clear hfz15_1
       try clear hfz15_2
       try clear hfz15_3
       try clear hfz19_0
       try clear hfz19_1
       try clear hfz19_2
       try clear hfz19_3
       try clear hfz24_0
       try clear hfz24_1
       try clear hfz24_2
       try clear hfz24_3
       try clear hfz28_0
       try clear hfz28_1
       try clear hfz28_2
       try clear hfz28_3
       try clear hfz30_0
       try clear hfz30_1
       try clear hfz30_2
       try clear hfz30_3
       try clear hfz34_0
       try clear hfz34_1
       try clear hfz34_2
       try clear hfz34_3
       try clear hfz36_0
       try clear hfz36_1
       try clear hfz36_2
       try clear hfz36_3
       try clear hfz40_0
       try clear hfz40_1
       try clear hfz40_2
       try clear hfz40_3
       try clear hfz42_0
       try clear hfz42_1
       try clear hfz42_2
       try clear hfz42_3
       try clear hfz46_0
       try clear hfz46_1
       try clear hfz46_2
       try clear hfz46_3
       try clear hfz48_0
       try clear hfz48_1
       try clear hfz48_2
       try clear hfz48_3
       try clear p2
       obtain ⟨kq, x127001_36, HA, HJ36, BK126, BK127, BK128, HB⟩ := hcut
       cases kq with
       | zero => exact absurd HA.out (by simp [r07_Meet.j2])
       | succ kj36 =>
        have H := HA.out
        clear HA
        simp only [r07_Meet.j2] at H
        have HC49 := Ad.mk H
        clear H
        have hnb50 := NB127_126.out
        have hnc50 := NB126_127.out
        have hnb51 := NB127_128.out
        have hnc51 := NB128_127.out
        have hcz52_0 : wc.cell? ⟨gb127, 0, none⟩ = some (.int .i64 a1_0) := (bkC BK127.out 0).trans rfl
        have hcz52_1 : wc.cell? ⟨gb127, 1, none⟩ = some (.int .i64 a1_1) := (bkC BK127.out 1).trans rfl
        have hcz52_2 : wc.cell? ⟨gb127, 2, none⟩ = some (.int .i64 a1_2) := (bkC BK127.out 2).trans rfl
        have hcz52_3 : wc.cell? ⟨gb127, 3, none⟩ = some (.int .i64 a1_3) := (bkC BK127.out 3).trans rfl
        have hfz52_0 := bkF BK127.out 0
        have hfz52_1 := bkF BK127.out 1
        have hfz52_2 := bkF BK127.out 2
        have hfz52_3 := bkF BK127.out 3
        have hnb53 := NB126_128.out
        have hnc53 := NB128_126.out
        have hcz54_0 : wc.cell? ⟨gb126, 0, none⟩ = some (.int .i64 x127000_24) := (bkC BK126.out 0).trans rfl
        have hcz54_1 : wc.cell? ⟨gb126, 1, none⟩ = some (.int .i64 x127001_36) := (bkC BK126.out 1).trans rfl
        have hcz54_2 : wc.cell? ⟨gb126, 2, none⟩ = some (.int .i64 a0_2) := (bkC BK126.out 2).trans rfl
        have hcz54_3 : wc.cell? ⟨gb126, 3, none⟩ = some (.int .i64 a0_3) := (bkC BK126.out 3).trans rfl
        have hfz54_0 := bkF BK126.out 0
        have hfz54_1 := bkF BK126.out 1
        have hfz54_2 := bkF BK126.out 2
        have hfz54_3 := bkF BK126.out 3
        go_upto_if 35 with (fail)
        go_cut [] (fun wc => ∃ (kq : Nat) (x127002_48 : Int), Ad (r07_Meet.j3 kq x127000_24 x127001_36 x127002_48 a0_3 a1_0 a1_1 a1_2 a1_3 = some (r1, r2, r3, r4, r5)) ∧ Ad (kq ≤ kj36) ∧ Ad (wc.heap[gb126]? = some (.cells #[.int .i64 x127000_24, .int .i64 x127001_36, .int .i64 x127002_48, .int .i64 a0_3] 23 (0, 0))) ∧ Ad (wc.heap[gb127]? = some (.cells #[.int .i64 a1_0, .int .i64 a1_1, .int .i64 a1_2, .int .i64 a1_3] 23 (0, 0))) ∧ Ad (wc.heap[gb128]? = some (.cells #[.int .i64 0, .int .i64 0, .int .i64 0, .int .i64 0] 23 (0, 0))) ∧ Ad (Below w.heap.size w wc))
        case first =>
         have H := HC49.out
         clear HC49
         by_cases c55 : a1_2 < a0_2
         ·rw [if_pos c55] at H
          have c55b0 : decide (a1_2 < a0_2) = true := decide_eq_true c55
          clear c55
          (first | rw [c55b0] | (simp only [i64_w]; rw [c55b0]) | skip)
          have H' := Ad.mk H
          clear H
          have hnb56 := NB127_126.out
          have hnc56 := NB126_127.out
          have hnb57 := NB127_128.out
          have hnc57 := NB128_127.out
          have hcz58_0 : wc.cell? ⟨gb127, 0, none⟩ = some (.int .i64 a1_0) := (bkC BK127.out 0).trans rfl
          have hcz58_1 : wc.cell? ⟨gb127, 1, none⟩ = some (.int .i64 a1_1) := (bkC BK127.out 1).trans rfl
          have hcz58_2 : wc.cell? ⟨gb127, 2, none⟩ = some (.int .i64 a1_2) := (bkC BK127.out 2).trans rfl
          have hcz58_3 : wc.cell? ⟨gb127, 3, none⟩ = some (.int .i64 a1_3) := (bkC BK127.out 3).trans rfl
          have hfz58_0 := bkF BK127.out 0
          have hfz58_1 := bkF BK127.out 1
          have hfz58_2 := bkF BK127.out 2
          have hfz58_3 := bkF BK127.out 3
          have hnb59 := NB126_128.out
          have hnc59 := NB128_126.out
          have hcz60_0 : wc.cell? ⟨gb126, 0, none⟩ = some (.int .i64 x127000_24) := (bkC BK126.out 0).trans rfl
          have hcz60_1 : wc.cell? ⟨gb126, 1, none⟩ = some (.int .i64 x127001_36) := (bkC BK126.out 1).trans rfl
          have hcz60_2 : wc.cell? ⟨gb126, 2, none⟩ = some (.int .i64 a0_2) := (bkC BK126.out 2).trans rfl
          have hcz60_3 : wc.cell? ⟨gb126, 3, none⟩ = some (.int .i64 a0_3) := (bkC BK126.out 3).trans rfl
          have hfz60_0 := bkF BK126.out 0
          have hfz60_1 := bkF BK126.out 1
          have hfz60_2 := bkF BK126.out 2
          have hfz60_3 := bkF BK126.out 3
          go_wp2
          go_meet
          case rel => exact ⟨_, (a1_2), H', ⟨by have := HJ2.out; have := HJ24.out; have := HJ36.out; first | omega | exact Nat.le_refl _⟩, ⟨by (with_reducible repeat (first | refine bkN ?_ _ | refine bkD ?_ | refine bkA ?_ _)); refine blk_put (cs := #[.int .i64 x127000_24, .int .i64 x127001_36, .int .i64 a0_2, .int .i64 a0_3]) ?_ 2 _ rfl; (with_reducible repeat (first | refine bkN ?_ _ | refine bkD ?_ | refine bkA ?_ _)); exact BK126.out⟩, ⟨by (with_reducible repeat (first | refine bkN ?_ _ | refine bkD ?_ | refine bkA ?_ _)); refine blk_far ?_ NB127_126.out _; (with_reducible repeat (first | refine bkN ?_ _ | refine bkD ?_ | refine bkA ?_ _)); exact BK127.out⟩, ⟨by (with_reducible repeat (first | refine bkN ?_ _ | refine bkD ?_ | refine bkA ?_ _)); refine blk_far ?_ NB128_126.out _; (with_reducible repeat (first | refine bkN ?_ _ | refine bkD ?_ | refine bkA ?_ _)); exact BK128.out⟩, ⟨by repeat (first | (with_reducible first | exact HB.out | apply bwA | apply bwN | apply bw1 | refine bwS ?_ GE126.out | refine bwS ?_ GE127.out | refine bwS ?_ GE128.out) | exact HB.out)⟩⟩
         ·rw [if_neg c55] at H
          have c55b0 : decide (a1_2 < a0_2) = false := decide_eq_false c55
          clear c55
          (first | rw [c55b0] | (simp only [i64_w]; rw [c55b0]) | skip)
          have H' := Ad.mk H
          clear H
          go_wp2
          go_meet
          case rel => exact ⟨_, (a0_2), H', ⟨by have := HJ2.out; have := HJ24.out; have := HJ36.out; first | omega | exact Nat.le_refl _⟩, ⟨by (with_reducible repeat (first | refine bkN ?_ _ | refine bkD ?_ | refine bkA ?_ _)); exact BK126.out⟩, ⟨by (with_reducible repeat (first | refine bkN ?_ _ | refine bkD ?_ | refine bkA ?_ _)); exact BK127.out⟩, ⟨by (with_reducible repeat (first | refine bkN ?_ _ | refine bkD ?_ | refine bkA ?_ _)); exact BK128.out⟩, ⟨by repeat (first | (with_reducible first | exact HB.out | apply bwA | apply bwN | apply bw1 | refine bwS ?_ GE126.out | refine bwS ?_ GE127.out | refine bwS ?_ GE128.out) | exact HB.out)⟩⟩
        case rest =>
         clear HC49
         try clear c1
         try clear c2
         try clear p2
         try clear c3
         try clear c4
         try clear c5
         try clear c8
         try clear c10
         try clear c11
         try clear c14
         try clear c17
         try clear c18
         try clear c21
         try clear c22
         try clear c23
         try clear c26
         try clear c27
         try clear c29
         try clear c31
         try clear c31b0
         try clear c32
         try clear c33
         try clear c35
         try clear c38
         try clear c39
         try clear c41
         try clear c43
         try clear c43b0
         try clear c44
         try clear c45
         try clear c47
         try clear c50
         try clear c51
         try clear c53
         try clear c55
         try clear c55b0
         try clear c56
         try clear c57
         try clear c59
         try clear hcz12_0
         try clear hcz12_1
         try clear hcz12_2
         try clear hcz12_3
         try clear hcz15_0
         try clear hcz15_1
         try clear hcz15_2
         try clear hcz15_3
         try clear hcz19_0
         try clear hcz19_1
         try clear hcz19_2
         try clear hcz19_3
         try clear hcz24_0
         try clear hcz24_1
         try clear hcz24_2
         try clear hcz24_3
         try clear hcz28_0
         try clear hcz28_1
         try clear hcz28_2
         try clear hcz28_3
         try clear hcz30_0
         try clear hcz30_1
         try clear hcz30_2
         try clear hcz30_3
         try clear hcz34_0
         try clear hcz34_1
         try clear hcz34_2
         try clear hcz34_3
         try clear hcz36_0
         try clear hcz36_1
         try clear hcz36_2
         try clear hcz36_3
         try clear hcz40_0
         try clear hcz40_1
         try clear hcz40_2
         try clear hcz40_3
         try clear hcz42_0
         try clear hcz42_1
         try clear hcz42_2
         try clear hcz42_3
         try clear hcz46_0
         try clear hcz46_1
         try clear hcz46_2
         try clear hcz46_3
         try clear hcz48_0
         try clear hcz48_1
         try clear hcz48_2
         try clear hcz48_3
         try clear hcz52_0
         try clear hcz52_1
         try clear hcz52_2
         try clear hcz52_3
         try clear hcz54_0
         try clear hcz54_1
         try clear hcz54_2
         try clear hcz54_3
         try clear hcz58_0
         try clear hcz58_1
         try clear hcz58_2
         try clear hcz58_3
         try clear hcz60_0
         try clear hcz60_1
         try clear hcz60_2
         try clear hcz60_3
         try clear hfz12_0
         try clear hfz12_1
         try clear hfz12_2
         try clear hfz12_3
         try clear hfz15_0
         try clear hfz15_1
         try clear hfz15_2
         try clear hfz15_3
         try clear hfz19_0
         try clear hfz19_1
         try clear hfz19_2
         try clear hfz19_3
         try clear hfz24_0
         try clear hfz24_1
         try clear hfz24_2
         try clear hfz24_3
         try clear hfz28_0
         try clear hfz28_1
         try clear hfz28_2
         try clear hfz28_3
         try clear hfz30_0
         try clear hfz30_1
         try clear hfz30_2
         try clear hfz30_3
         try clear hfz34_0
         try clear hfz34_1
         try clear hfz34_2
         try clear hfz34_3
         try clear hfz36_0
         try clear hfz36_1
         try clear hfz36_2
         try clear hfz36_3
         try clear hfz40_0
         try clear hfz40_1
         try clear hfz40_2
         try clear hfz40_3
         try clear hfz42_0
         try clear hfz42_1
         try clear hfz42_2
         try clear hfz42_3
         try clear hfz46_0
         try clear hfz46_1
         try clear hfz46_2
         try clear hfz46_3
         try clear hfz48_0
         try clear hfz48_1
         try clear hfz48_2
         try clear hfz48_3
         try clear hfz52_0
         try clear hfz52_1
         try clear hfz52_2
         try clear hfz52_3
         try clear hfz54_0
         try clear hfz54_1
         try clear hfz54_2
         try clear hfz54_3
         try clear hfz58_0
         try clear hfz58_1
         try clear hfz58_2
         try clear hfz58_3
         try clear hfz60_0
         try clear hfz60_1
         try clear hfz60_2
         try clear hfz60_3
         try clear p2
         obtain ⟨kq, x127002_48, HA, HJ48, BK126, BK127, BK128, HB⟩ := hcut
         cases kq with
         | zero => exact absurd HA.out (by simp [r07_Meet.j3])
         | succ kj48 =>
          have H := HA.out
          clear HA
          simp only [r07_Meet.j3] at H
          by_cases c61 : a1_3 < a0_3
          ·rw [if_pos c61] at H
           have c61b0 : decide (a1_3 < a0_3) = true := decide_eq_true c61
           clear c61
           by_cases c62 : x127000_24 > x127002_48
           ·rw [if_pos c62] at H
            have c62b0 : decide (x127002_48 < x127000_24) = true := decide_eq_true c62
            clear c62
            simp only [Option.some.injEq, Prod.mk.injEq] at H
            obtain ⟨rfl, rfl, rfl, rfl, rfl⟩ := H
            have hnb63 := NB127_126.out
            have hnc63 := NB126_127.out
            have hnb64 := NB127_128.out
            have hnc64 := NB128_127.out
            have hcz65_0 : wc.cell? ⟨gb127, 0, none⟩ = some (.int .i64 a1_0) := (bkC BK127.out 0).trans rfl
            have hcz65_1 : wc.cell? ⟨gb127, 1, none⟩ = some (.int .i64 a1_1) := (bkC BK127.out 1).trans rfl
            have hcz65_2 : wc.cell? ⟨gb127, 2, none⟩ = some (.int .i64 a1_2) := (bkC BK127.out 2).trans rfl
            have hcz65_3 : wc.cell? ⟨gb127, 3, none⟩ = some (.int .i64 a1_3) := (bkC BK127.out 3).trans rfl
            have hfz65_0 := bkF BK127.out 0
            have hfz65_1 := bkF BK127.out 1
            have hfz65_2 := bkF BK127.out 2
            have hfz65_3 := bkF BK127.out 3
            have hnb66 := NB126_128.out
            have hnc66 := NB128_126.out
            have hcz67_0 : wc.cell? ⟨gb126, 0, none⟩ = some (.int .i64 x127000_24) := (bkC BK126.out 0).trans rfl
            have hcz67_1 : wc.cell? ⟨gb126, 1, none⟩ = some (.int .i64 x127001_36) := (bkC BK126.out 1).trans rfl
            have hcz67_2 : wc.cell? ⟨gb126, 2, none⟩ = some (.int .i64 x127002_48) := (bkC BK126.out 2).trans rfl
            have hcz67_3 : wc.cell? ⟨gb126, 3, none⟩ = some (.int .i64 a0_3) := (bkC BK126.out 3).trans rfl
            have hfz67_0 := bkF BK126.out 0
            have hfz67_1 := bkF BK126.out 1
            have hfz67_2 := bkF BK126.out 2
            have hfz67_3 := bkF BK126.out 3
            have hcz68_0 : wc.cell? ⟨gb128, 0, none⟩ = some (.int .i64 0) := (bkC BK128.out 0).trans rfl
            have hcz68_1 : wc.cell? ⟨gb128, 1, none⟩ = some (.int .i64 0) := (bkC BK128.out 1).trans rfl
            have hcz68_2 : wc.cell? ⟨gb128, 2, none⟩ = some (.int .i64 0) := (bkC BK128.out 2).trans rfl
            have hcz68_3 : wc.cell? ⟨gb128, 3, none⟩ = some (.int .i64 0) := (bkC BK128.out 3).trans rfl
            have hfz68_0 := bkF BK128.out 0
            have hfz68_1 := bkF BK128.out 1
            have hfz68_2 := bkF BK128.out 2
            have hfz68_3 := bkF BK128.out 3
            go_wp2
            refine bodyPost_ret (results_ct rfl _ _ gb128 23 #[.int .i64 0, .int .i64 0, .int .i64 0, .int .i64 0] (0, 0) _ rfl (by (with_reducible repeat (first | refine bkN ?_ _ | refine bkD ?_ | refine bkA ?_ _)); refine blk_put (cs := #[.int .i64 0, .int .i64 0, .int .i64 0, .int .i64 0]) ?_ 3 _ rfl; (with_reducible repeat (first | refine bkN ?_ _ | refine bkD ?_ | refine bkA ?_ _)); refine blk_put (cs := #[.int .i64 0, .int .i64 0, .int .i64 0, .int .i64 0]) ?_ 2 _ rfl; (with_reducible repeat (first | refine bkN ?_ _ | refine bkD ?_ | refine bkA ?_ _)); refine blk_put (cs := #[.int .i64 0, .int .i64 0, .int .i64 0, .int .i64 0]) ?_ 1 _ rfl; (with_reducible repeat (first | refine bkN ?_ _ | refine bkD ?_ | refine bkA ?_ _)); refine blk_put (cs := #[.int .i64 0, .int .i64 0, .int .i64 0, .int .i64 0]) ?_ 0 _ rfl; (with_reducible repeat (first | refine bkN ?_ _ | refine bkD ?_ | refine bkA ?_ _)); refine blk_far ?_ NB128_126.out _; (with_reducible repeat (first | refine bkN ?_ _ | refine bkD ?_ | refine bkA ?_ _)); exact BK128.out) Tryz.underlying23 rfl (by kernel_rfl)) rfl ?_
            exact ⟨by first | rfl | (simp [errW_none, errW_some] <;> rfl) | (simp [*, errW_none, errW_some] <;> rfl), by repeat (first | (with_reducible first | exact HB.out | apply bwA | apply bwN | apply bw1 | refine bwS ?_ GE126.out | refine bwS ?_ GE127.out | refine bwS ?_ GE128.out) | exact HB.out)⟩
           ·rw [if_neg c62] at H
            have c62b0 : decide (x127002_48 < x127000_24) = false := decide_eq_false c62
            clear c62
            by_cases c69 : x127001_36 > a1_3
            ·rw [if_pos c69] at H
             have c69b0 : decide (a1_3 < x127001_36) = true := decide_eq_true c69
             clear c69
             simp only [Option.some.injEq, Prod.mk.injEq] at H
             obtain ⟨rfl, rfl, rfl, rfl, rfl⟩ := H
             have hnb70 := NB127_126.out
             have hnc70 := NB126_127.out
             have hnb71 := NB127_128.out
             have hnc71 := NB128_127.out
             have hcz72_0 : wc.cell? ⟨gb127, 0, none⟩ = some (.int .i64 a1_0) := (bkC BK127.out 0).trans rfl
             have hcz72_1 : wc.cell? ⟨gb127, 1, none⟩ = some (.int .i64 a1_1) := (bkC BK127.out 1).trans rfl
             have hcz72_2 : wc.cell? ⟨gb127, 2, none⟩ = some (.int .i64 a1_2) := (bkC BK127.out 2).trans rfl
             have hcz72_3 : wc.cell? ⟨gb127, 3, none⟩ = some (.int .i64 a1_3) := (bkC BK127.out 3).trans rfl
             have hfz72_0 := bkF BK127.out 0
             have hfz72_1 := bkF BK127.out 1
             have hfz72_2 := bkF BK127.out 2
             have hfz72_3 := bkF BK127.out 3
             have hnb73 := NB126_128.out
             have hnc73 := NB128_126.out
             have hcz74_0 : wc.cell? ⟨gb126, 0, none⟩ = some (.int .i64 x127000_24) := (bkC BK126.out 0).trans rfl
             have hcz74_1 : wc.cell? ⟨gb126, 1, none⟩ = some (.int .i64 x127001_36) := (bkC BK126.out 1).trans rfl
             have hcz74_2 : wc.cell? ⟨gb126, 2, none⟩ = some (.int .i64 x127002_48) := (bkC BK126.out 2).trans rfl
             have hcz74_3 : wc.cell? ⟨gb126, 3, none⟩ = some (.int .i64 a0_3) := (bkC BK126.out 3).trans rfl
             have hfz74_0 := bkF BK126.out 0
             have hfz74_1 := bkF BK126.out 1
             have hfz74_2 := bkF BK126.out 2
             have hfz74_3 := bkF BK126.out 3
             have hcz75_0 : wc.cell? ⟨gb128, 0, none⟩ = some (.int .i64 0) := (bkC BK128.out 0).trans rfl
             have hcz75_1 : wc.cell? ⟨gb128, 1, none⟩ = some (.int .i64 0) := (bkC BK128.out 1).trans rfl
             have hcz75_2 : wc.cell? ⟨gb128, 2, none⟩ = some (.int .i64 0) := (bkC BK128.out 2).trans rfl
             have hcz75_3 : wc.cell? ⟨gb128, 3, none⟩ = some (.int .i64 0) := (bkC BK128.out 3).trans rfl
             have hfz75_0 := bkF BK128.out 0
             have hfz75_1 := bkF BK128.out 1
             have hfz75_2 := bkF BK128.out 2
             have hfz75_3 := bkF BK128.out 3
             go_wp2
             refine bodyPost_ret (results_ct rfl _ _ gb128 23 #[.int .i64 0, .int .i64 0, .int .i64 0, .int .i64 0] (0, 0) _ rfl (by (with_reducible repeat (first | refine bkN ?_ _ | refine bkD ?_ | refine bkA ?_ _)); refine blk_put (cs := #[.int .i64 0, .int .i64 0, .int .i64 0, .int .i64 0]) ?_ 3 _ rfl; (with_reducible repeat (first | refine bkN ?_ _ | refine bkD ?_ | refine bkA ?_ _)); refine blk_put (cs := #[.int .i64 0, .int .i64 0, .int .i64 0, .int .i64 0]) ?_ 2 _ rfl; (with_reducible repeat (first | refine bkN ?_ _ | refine bkD ?_ | refine bkA ?_ _)); refine blk_put (cs := #[.int .i64 0, .int .i64 0, .int .i64 0, .int .i64 0]) ?_ 1 _ rfl; (with_reducible repeat (first | refine bkN ?_ _ | refine bkD ?_ | refine bkA ?_ _)); refine blk_put (cs := #[.int .i64 0, .int .i64 0, .int .i64 0, .int .i64 0]) ?_ 0 _ rfl; (with_reducible repeat (first | refine bkN ?_ _ | refine bkD ?_ | refine bkA ?_ _)); refine blk_far ?_ NB128_126.out _; (with_reducible repeat (first | refine bkN ?_ _ | refine bkD ?_ | refine bkA ?_ _)); exact BK128.out) Tryz.underlying23 rfl (by kernel_rfl)) rfl ?_
             exact ⟨by first | rfl | (simp [errW_none, errW_some] <;> rfl) | (simp [*, errW_none, errW_some] <;> rfl), by repeat (first | (with_reducible first | exact HB.out | apply bwA | apply bwN | apply bw1 | refine bwS ?_ GE126.out | refine bwS ?_ GE127.out | refine bwS ?_ GE128.out) | exact HB.out)⟩
            ·rw [if_neg c69] at H
             have c69b0 : decide (a1_3 < x127001_36) = false := decide_eq_false c69
             clear c69
             simp only [Option.some.injEq, Prod.mk.injEq] at H
             obtain ⟨rfl, rfl, rfl, rfl, rfl⟩ := H
             have hnb76 := NB127_126.out
             have hnc76 := NB126_127.out
             have hnb77 := NB127_128.out
             have hnc77 := NB128_127.out
             have hcz78_0 : wc.cell? ⟨gb127, 0, none⟩ = some (.int .i64 a1_0) := (bkC BK127.out 0).trans rfl
             have hcz78_1 : wc.cell? ⟨gb127, 1, none⟩ = some (.int .i64 a1_1) := (bkC BK127.out 1).trans rfl
             have hcz78_2 : wc.cell? ⟨gb127, 2, none⟩ = some (.int .i64 a1_2) := (bkC BK127.out 2).trans rfl
             have hcz78_3 : wc.cell? ⟨gb127, 3, none⟩ = some (.int .i64 a1_3) := (bkC BK127.out 3).trans rfl
             have hfz78_0 := bkF BK127.out 0
             have hfz78_1 := bkF BK127.out 1
             have hfz78_2 := bkF BK127.out 2
             have hfz78_3 := bkF BK127.out 3
             have hnb79 := NB126_128.out
             have hnc79 := NB128_126.out
             have hcz80_0 : wc.cell? ⟨gb126, 0, none⟩ = some (.int .i64 x127000_24) := (bkC BK126.out 0).trans rfl
             have hcz80_1 : wc.cell? ⟨gb126, 1, none⟩ = some (.int .i64 x127001_36) := (bkC BK126.out 1).trans rfl
             have hcz80_2 : wc.cell? ⟨gb126, 2, none⟩ = some (.int .i64 x127002_48) := (bkC BK126.out 2).trans rfl
             have hcz80_3 : wc.cell? ⟨gb126, 3, none⟩ = some (.int .i64 a0_3) := (bkC BK126.out 3).trans rfl
             have hfz80_0 := bkF BK126.out 0
             have hfz80_1 := bkF BK126.out 1
             have hfz80_2 := bkF BK126.out 2
             have hfz80_3 := bkF BK126.out 3
             have hcz81_0 : wc.cell? ⟨gb128, 0, none⟩ = some (.int .i64 0) := (bkC BK128.out 0).trans rfl
             have hcz81_1 : wc.cell? ⟨gb128, 1, none⟩ = some (.int .i64 0) := (bkC BK128.out 1).trans rfl
             have hcz81_2 : wc.cell? ⟨gb128, 2, none⟩ = some (.int .i64 0) := (bkC BK128.out 2).trans rfl
             have hcz81_3 : wc.cell? ⟨gb128, 3, none⟩ = some (.int .i64 0) := (bkC BK128.out 3).trans rfl
             have hfz81_0 := bkF BK128.out 0
             have hfz81_1 := bkF BK128.out 1
             have hfz81_2 := bkF BK128.out 2
             have hfz81_3 := bkF BK128.out 3
             go_wp2
             refine bodyPost_ret (results_ct rfl _ _ gb128 23 #[.int .i64 x127000_24, .int .i64 x127001_36, .int .i64 x127002_48, .int .i64 a1_3] (0, 0) _ rfl (by (with_reducible repeat (first | refine bkN ?_ _ | refine bkD ?_ | refine bkA ?_ _)); refine blk_put (cs := #[.int .i64 x127000_24, .int .i64 x127001_36, .int .i64 x127002_48, .int .i64 0]) ?_ 3 _ rfl; (with_reducible repeat (first | refine bkN ?_ _ | refine bkD ?_ | refine bkA ?_ _)); refine blk_put (cs := #[.int .i64 x127000_24, .int .i64 x127001_36, .int .i64 0, .int .i64 0]) ?_ 2 _ rfl; (with_reducible repeat (first | refine bkN ?_ _ | refine bkD ?_ | refine bkA ?_ _)); refine blk_put (cs := #[.int .i64 x127000_24, .int .i64 0, .int .i64 0, .int .i64 0]) ?_ 1 _ rfl; (with_reducible repeat (first | refine bkN ?_ _ | refine bkD ?_ | refine bkA ?_ _)); refine blk_put (cs := #[.int .i64 0, .int .i64 0, .int .i64 0, .int .i64 0]) ?_ 0 _ rfl; (with_reducible repeat (first | refine bkN ?_ _ | refine bkD ?_ | refine bkA ?_ _)); refine blk_far ?_ NB128_126.out _; (with_reducible repeat (first | refine bkN ?_ _ | refine bkD ?_ | refine bkA ?_ _)); exact BK128.out) Tryz.underlying23 rfl (by kernel_rfl)) rfl ?_
             exact ⟨by first | rfl | (simp [errW_none, errW_some] <;> rfl) | (simp [*, errW_none, errW_some] <;> rfl), by repeat (first | (with_reducible first | exact HB.out | apply bwA | apply bwN | apply bw1 | refine bwS ?_ GE126.out | refine bwS ?_ GE127.out | refine bwS ?_ GE128.out) | exact HB.out)⟩
          ·rw [if_neg c61] at H
           have c61b0 : decide (a1_3 < a0_3) = false := decide_eq_false c61
           clear c61
           by_cases c82 : x127000_24 > x127002_48
           ·rw [if_pos c82] at H
            have c82b0 : decide (x127002_48 < x127000_24) = true := decide_eq_true c82
            clear c82
            simp only [Option.some.injEq, Prod.mk.injEq] at H
            obtain ⟨rfl, rfl, rfl, rfl, rfl⟩ := H
            have hnb83 := NB127_126.out
            have hnc83 := NB126_127.out
            have hnb84 := NB127_128.out
            have hnc84 := NB128_127.out
            have hcz85_0 : wc.cell? ⟨gb127, 0, none⟩ = some (.int .i64 a1_0) := (bkC BK127.out 0).trans rfl
            have hcz85_1 : wc.cell? ⟨gb127, 1, none⟩ = some (.int .i64 a1_1) := (bkC BK127.out 1).trans rfl
            have hcz85_2 : wc.cell? ⟨gb127, 2, none⟩ = some (.int .i64 a1_2) := (bkC BK127.out 2).trans rfl
            have hcz85_3 : wc.cell? ⟨gb127, 3, none⟩ = some (.int .i64 a1_3) := (bkC BK127.out 3).trans rfl
            have hfz85_0 := bkF BK127.out 0
            have hfz85_1 := bkF BK127.out 1
            have hfz85_2 := bkF BK127.out 2
            have hfz85_3 := bkF BK127.out 3
            have hnb86 := NB126_128.out
            have hnc86 := NB128_126.out
            have hcz87_0 : wc.cell? ⟨gb126, 0, none⟩ = some (.int .i64 x127000_24) := (bkC BK126.out 0).trans rfl
            have hcz87_1 : wc.cell? ⟨gb126, 1, none⟩ = some (.int .i64 x127001_36) := (bkC BK126.out 1).trans rfl
            have hcz87_2 : wc.cell? ⟨gb126, 2, none⟩ = some (.int .i64 x127002_48) := (bkC BK126.out 2).trans rfl
            have hcz87_3 : wc.cell? ⟨gb126, 3, none⟩ = some (.int .i64 a0_3) := (bkC BK126.out 3).trans rfl
            have hfz87_0 := bkF BK126.out 0
            have hfz87_1 := bkF BK126.out 1
            have hfz87_2 := bkF BK126.out 2
            have hfz87_3 := bkF BK126.out 3
            have hcz88_0 : wc.cell? ⟨gb128, 0, none⟩ = some (.int .i64 0) := (bkC BK128.out 0).trans rfl
            have hcz88_1 : wc.cell? ⟨gb128, 1, none⟩ = some (.int .i64 0) := (bkC BK128.out 1).trans rfl
            have hcz88_2 : wc.cell? ⟨gb128, 2, none⟩ = some (.int .i64 0) := (bkC BK128.out 2).trans rfl
            have hcz88_3 : wc.cell? ⟨gb128, 3, none⟩ = some (.int .i64 0) := (bkC BK128.out 3).trans rfl
            have hfz88_0 := bkF BK128.out 0
            have hfz88_1 := bkF BK128.out 1
            have hfz88_2 := bkF BK128.out 2
            have hfz88_3 := bkF BK128.out 3
            go_wp2
            refine bodyPost_ret (results_ct rfl _ _ gb128 23 #[.int .i64 0, .int .i64 0, .int .i64 0, .int .i64 0] (0, 0) _ rfl (by (with_reducible repeat (first | refine bkN ?_ _ | refine bkD ?_ | refine bkA ?_ _)); refine blk_put (cs := #[.int .i64 0, .int .i64 0, .int .i64 0, .int .i64 0]) ?_ 3 _ rfl; (with_reducible repeat (first | refine bkN ?_ _ | refine bkD ?_ | refine bkA ?_ _)); refine blk_put (cs := #[.int .i64 0, .int .i64 0, .int .i64 0, .int .i64 0]) ?_ 2 _ rfl; (with_reducible repeat (first | refine bkN ?_ _ | refine bkD ?_ | refine bkA ?_ _)); refine blk_put (cs := #[.int .i64 0, .int .i64 0, .int .i64 0, .int .i64 0]) ?_ 1 _ rfl; (with_reducible repeat (first | refine bkN ?_ _ | refine bkD ?_ | refine bkA ?_ _)); refine blk_put (cs := #[.int .i64 0, .int .i64 0, .int .i64 0, .int .i64 0]) ?_ 0 _ rfl; (with_reducible repeat (first | refine bkN ?_ _ | refine bkD ?_ | refine bkA ?_ _)); exact BK128.out) Tryz.underlying23 rfl (by kernel_rfl)) rfl ?_
            exact ⟨by first | rfl | (simp [errW_none, errW_some] <;> rfl) | (simp [*, errW_none, errW_some] <;> rfl), by repeat (first | (with_reducible first | exact HB.out | apply bwA | apply bwN | apply bw1 | refine bwS ?_ GE126.out | refine bwS ?_ GE127.out | refine bwS ?_ GE128.out) | exact HB.out)⟩
           ·rw [if_neg c82] at H
            have c82b0 : decide (x127002_48 < x127000_24) = false := decide_eq_false c82
            clear c82
            by_cases c89 : x127001_36 > a0_3
            ·rw [if_pos c89] at H
             have c89b0 : decide (a0_3 < x127001_36) = true := decide_eq_true c89
             clear c89
             simp only [Option.some.injEq, Prod.mk.injEq] at H
             obtain ⟨rfl, rfl, rfl, rfl, rfl⟩ := H
             have hnb90 := NB127_126.out
             have hnc90 := NB126_127.out
             have hnb91 := NB127_128.out
             have hnc91 := NB128_127.out
             have hcz92_0 : wc.cell? ⟨gb127, 0, none⟩ = some (.int .i64 a1_0) := (bkC BK127.out 0).trans rfl
             have hcz92_1 : wc.cell? ⟨gb127, 1, none⟩ = some (.int .i64 a1_1) := (bkC BK127.out 1).trans rfl
             have hcz92_2 : wc.cell? ⟨gb127, 2, none⟩ = some (.int .i64 a1_2) := (bkC BK127.out 2).trans rfl
             have hcz92_3 : wc.cell? ⟨gb127, 3, none⟩ = some (.int .i64 a1_3) := (bkC BK127.out 3).trans rfl
             have hfz92_0 := bkF BK127.out 0
             have hfz92_1 := bkF BK127.out 1
             have hfz92_2 := bkF BK127.out 2
             have hfz92_3 := bkF BK127.out 3
             have hnb93 := NB126_128.out
             have hnc93 := NB128_126.out
             have hcz94_0 : wc.cell? ⟨gb126, 0, none⟩ = some (.int .i64 x127000_24) := (bkC BK126.out 0).trans rfl
             have hcz94_1 : wc.cell? ⟨gb126, 1, none⟩ = some (.int .i64 x127001_36) := (bkC BK126.out 1).trans rfl
             have hcz94_2 : wc.cell? ⟨gb126, 2, none⟩ = some (.int .i64 x127002_48) := (bkC BK126.out 2).trans rfl
             have hcz94_3 : wc.cell? ⟨gb126, 3, none⟩ = some (.int .i64 a0_3) := (bkC BK126.out 3).trans rfl
             have hfz94_0 := bkF BK126.out 0
             have hfz94_1 := bkF BK126.out 1
             have hfz94_2 := bkF BK126.out 2
             have hfz94_3 := bkF BK126.out 3
             have hcz95_0 : wc.cell? ⟨gb128, 0, none⟩ = some (.int .i64 0) := (bkC BK128.out 0).trans rfl
             have hcz95_1 : wc.cell? ⟨gb128, 1, none⟩ = some (.int .i64 0) := (bkC BK128.out 1).trans rfl
             have hcz95_2 : wc.cell? ⟨gb128, 2, none⟩ = some (.int .i64 0) := (bkC BK128.out 2).trans rfl
             have hcz95_3 : wc.cell? ⟨gb128, 3, none⟩ = some (.int .i64 0) := (bkC BK128.out 3).trans rfl
             have hfz95_0 := bkF BK128.out 0
             have hfz95_1 := bkF BK128.out 1
             have hfz95_2 := bkF BK128.out 2
             have hfz95_3 := bkF BK128.out 3
             go_wp2
             refine bodyPost_ret (results_ct rfl _ _ gb128 23 #[.int .i64 0, .int .i64 0, .int .i64 0, .int .i64 0] (0, 0) _ rfl (by (with_reducible repeat (first | refine bkN ?_ _ | refine bkD ?_ | refine bkA ?_ _)); refine blk_put (cs := #[.int .i64 0, .int .i64 0, .int .i64 0, .int .i64 0]) ?_ 3 _ rfl; (with_reducible repeat (first | refine bkN ?_ _ | refine bkD ?_ | refine bkA ?_ _)); refine blk_put (cs := #[.int .i64 0, .int .i64 0, .int .i64 0, .int .i64 0]) ?_ 2 _ rfl; (with_reducible repeat (first | refine bkN ?_ _ | refine bkD ?_ | refine bkA ?_ _)); refine blk_put (cs := #[.int .i64 0, .int .i64 0, .int .i64 0, .int .i64 0]) ?_ 1 _ rfl; (with_reducible repeat (first | refine bkN ?_ _ | refine bkD ?_ | refine bkA ?_ _)); refine blk_put (cs := #[.int .i64 0, .int .i64 0, .int .i64 0, .int .i64 0]) ?_ 0 _ rfl; (with_reducible repeat (first | refine bkN ?_ _ | refine bkD ?_ | refine bkA ?_ _)); exact BK128.out) Tryz.underlying23 rfl (by kernel_rfl)) rfl ?_
             exact ⟨by first | rfl | (simp [errW_none, errW_some] <;> rfl) | (simp [*, errW_none, errW_some] <;> rfl), by repeat (first | (with_reducible first | exact HB.out | apply bwA | apply bwN | apply bw1 | refine bwS ?_ GE126.out | refine bwS ?_ GE127.out | refine bwS ?_ GE128.out) | exact HB.out)⟩
            ·rw [if_neg c89] at H
             have c89b0 : decide (a0_3 < x127001_36) = false := decide_eq_false c89
             clear c89
             simp only [Option.some.injEq, Prod.mk.injEq] at H
             obtain ⟨rfl, rfl, rfl, rfl, rfl⟩ := H
             have hnb96 := NB127_126.out
             have hnc96 := NB126_127.out
             have hnb97 := NB127_128.out
             have hnc97 := NB128_127.out
             have hcz98_0 : wc.cell? ⟨gb127, 0, none⟩ = some (.int .i64 a1_0) := (bkC BK127.out 0).trans rfl
             have hcz98_1 : wc.cell? ⟨gb127, 1, none⟩ = some (.int .i64 a1_1) := (bkC BK127.out 1).trans rfl
             have hcz98_2 : wc.cell? ⟨gb127, 2, none⟩ = some (.int .i64 a1_2) := (bkC BK127.out 2).trans rfl
             have hcz98_3 : wc.cell? ⟨gb127, 3, none⟩ = some (.int .i64 a1_3) := (bkC BK127.out 3).trans rfl
             have hfz98_0 := bkF BK127.out 0
             have hfz98_1 := bkF BK127.out 1
             have hfz98_2 := bkF BK127.out 2
             have hfz98_3 := bkF BK127.out 3
             have hnb99 := NB126_128.out
             have hnc99 := NB128_126.out
             have hcz100_0 : wc.cell? ⟨gb126, 0, none⟩ = some (.int .i64 x127000_24) := (bkC BK126.out 0).trans rfl
             have hcz100_1 : wc.cell? ⟨gb126, 1, none⟩ = some (.int .i64 x127001_36) := (bkC BK126.out 1).trans rfl
             have hcz100_2 : wc.cell? ⟨gb126, 2, none⟩ = some (.int .i64 x127002_48) := (bkC BK126.out 2).trans rfl
             have hcz100_3 : wc.cell? ⟨gb126, 3, none⟩ = some (.int .i64 a0_3) := (bkC BK126.out 3).trans rfl
             have hfz100_0 := bkF BK126.out 0
             have hfz100_1 := bkF BK126.out 1
             have hfz100_2 := bkF BK126.out 2
             have hfz100_3 := bkF BK126.out 3
             have hcz101_0 : wc.cell? ⟨gb128, 0, none⟩ = some (.int .i64 0) := (bkC BK128.out 0).trans rfl
             have hcz101_1 : wc.cell? ⟨gb128, 1, none⟩ = some (.int .i64 0) := (bkC BK128.out 1).trans rfl
             have hcz101_2 : wc.cell? ⟨gb128, 2, none⟩ = some (.int .i64 0) := (bkC BK128.out 2).trans rfl
             have hcz101_3 : wc.cell? ⟨gb128, 3, none⟩ = some (.int .i64 0) := (bkC BK128.out 3).trans rfl
             have hfz101_0 := bkF BK128.out 0
             have hfz101_1 := bkF BK128.out 1
             have hfz101_2 := bkF BK128.out 2
             have hfz101_3 := bkF BK128.out 3
             go_wp2
             refine bodyPost_ret (results_ct rfl _ _ gb128 23 #[.int .i64 x127000_24, .int .i64 x127001_36, .int .i64 x127002_48, .int .i64 a0_3] (0, 0) _ rfl (by (with_reducible repeat (first | refine bkN ?_ _ | refine bkD ?_ | refine bkA ?_ _)); refine blk_put (cs := #[.int .i64 x127000_24, .int .i64 x127001_36, .int .i64 x127002_48, .int .i64 0]) ?_ 3 _ rfl; (with_reducible repeat (first | refine bkN ?_ _ | refine bkD ?_ | refine bkA ?_ _)); refine blk_put (cs := #[.int .i64 x127000_24, .int .i64 x127001_36, .int .i64 0, .int .i64 0]) ?_ 2 _ rfl; (with_reducible repeat (first | refine bkN ?_ _ | refine bkD ?_ | refine bkA ?_ _)); refine blk_put (cs := #[.int .i64 x127000_24, .int .i64 0, .int .i64 0, .int .i64 0]) ?_ 1 _ rfl; (with_reducible repeat (first | refine bkN ?_ _ | refine bkD ?_ | refine bkA ?_ _)); refine blk_put (cs := #[.int .i64 0, .int .i64 0, .int .i64 0, .int .i64 0]) ?_ 0 _ rfl; (with_reducible repeat (first | refine bkN ?_ _ | refine bkD ?_ | refine bkA ?_ _)); exact BK128.out) Tryz.underlying23 rfl (by kernel_rfl)) rfl ?_
             exact ⟨by first | rfl | (simp [errW_none, errW_some] <;> rfl) | (simp [*, errW_none, errW_some] <;> rfl), by repeat (first | (with_reducible first | exact HB.out | apply bwA | apply bwN | apply bw1 | refine bwS ?_ GE126.out | refine bwS ?_ GE127.out | refine bwS ?_ GE128.out) | exact HB.out)⟩
end Go.Proofs.YthnndjlccepebaaGreatDoor.PHeavy
