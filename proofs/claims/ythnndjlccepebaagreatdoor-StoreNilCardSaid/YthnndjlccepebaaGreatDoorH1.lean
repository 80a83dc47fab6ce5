/- Heavy returns a bool on any op, and leaves memory as it was. -/
import Derived.Test.YthnndjlccepebaaGreatDoorT1
import Derived.Lib.Hide
import Derived.Test.YthnndjlccepebaaGreatDoorP5
set_option linter.unusedVariables false
set_option linter.unusedSimpArgs false
namespace Go.Proofs.YthnndjlccepebaaGreatDoor.PHeavy
open Go.RowKit Go.Proofs.YthnndjlccepebaaGreatDoorW.PrintWords
def Loaded (w : World) (e : Ending) (w' : World) : Prop :=
  ∃ (r1 r2 : Int) (A B : Option Addr) (a b c d : Nat) (r5 : Bool), e = .returned (.tuple #[.agg #[.int .i64 r1, .int .i64 r2, .slice A a b], .slice B c d, .bool r5]) ∧ Below w.heap.size w w'
theorem load_any (A0 : Option Addr) (c0 : Nat) (l0 : List Int) (w : World) (hr0 : Kd.C (Kd.int .u8) w A0 l0.length l0) (hc0 : l0.length ≤ c0) (hl : l0.length ≤ 1000000000) : Calls Tryz.prog 14 #[.slice A0 l0.length c0] w (Loaded w) := by
  obtain ⟨k, ⟨r1, r2, r3, r4, r5⟩, hk⟩ := load_tot l0 hl
  refine (load_calls k (fun _ => False) A0 c0 l0 r1 r2 r3 r4 r5 w w (Below.refl _ _) hr0 hc0 hk).mono ?_
  rintro e w' ⟨v2, v3, rfl, h2, h3, hb, _⟩
  obtain ⟨A, c, rfl⟩ := Kd.R_slice h2
  obtain ⟨B, d, rfl⟩ := Kd.R_slice h3
  exact ⟨r1, r2, A, B, _, c, _, d, r5, rfl, hb⟩
def BoolBack (w : World) (e : Ending) (w' : World) : Prop := (∃ b, e = .returned (.bool b)) ∧ Below w.heap.size w w'
set_option maxHeartbeats 2000000 in
set_option maxRecDepth 100000 in
theorem heavy_calls (g c0 : Nat) (hc0 : 1 ≤ c0) (kd x0 y0 x1 y1 ax ay bx by_ n m : Int) (A1 A2 A3 : Option Addr) (n1 n3 c1 c2 c3 : Nat) (l : List Int) (w : World) (hr : Kd.C (Kd.int .u8) w A2 l.length l) (hc2 : l.length ≤ c2)
    (h0 : w.cell? ⟨g, 0, none⟩ = some (.int .i64 kd)) (h1 : w.cell? ⟨g, 1, none⟩ = some (.int .i64 x0)) (h2 : w.cell? ⟨g, 2, none⟩ = some (.int .i64 y0)) (h3 : w.cell? ⟨g, 3, none⟩ = some (.int .i64 x1)) (h4 : w.cell? ⟨g, 4, none⟩ = some (.int .i64 y1))
    (h5 : w.cell? ⟨g, 5, none⟩ = some (.int .i64 ax)) (h6 : w.cell? ⟨g, 6, none⟩ = some (.int .i64 ay)) (h7 : w.cell? ⟨g, 7, none⟩ = some (.int .i64 bx)) (h8 : w.cell? ⟨g, 8, none⟩ = some (.int .i64 by_)) (h9 : w.cell? ⟨g, 9, none⟩ = some (.int .i64 n)) (h10 : w.cell? ⟨g, 10, none⟩ = some (.int .i64 m))
    (h11 : w.cell? ⟨g, 11, none⟩ = some (.slice A1 n1 c1)) (h12 : w.cell? ⟨g, 12, none⟩ = some (.slice A2 l.length c2)) (h13 : w.cell? ⟨g, 13, none⟩ = some (.slice A3 n3 c3)) :
    Calls Tryz.prog 5 #[.slice (some ⟨g, 0, none⟩) 1 c0, .int .i64 1] w (BoolBack w) := by
  have HR := Ad.mk hr
  clear hr
  go_enter Tryz.func5, Tryz.ntmps5
  go_wp2_with fail
  go_loopw [5] (fun i w' => (i = .int .i64 0 ∧ w' = w) ∨ (i = .int .i64 1 ∧ Below w.heap.size w w')) (fun i _ => (1 - intOf i).toNat)
  case atStart => exact Or.inl ⟨rfl, rfl⟩
  case round =>
    rcases hrel with ⟨rfl, rfl⟩ | ⟨rfl, hb⟩
    · go_wp2_with (go_at_call 14; refine (load_any _ _ l _ (Kd.C_alloc HR.out _) hc2 (by omega)).mono ?_; rintro e w1 ⟨r1, r2, A, B, a, b, c, d, r5, rfl, hb1⟩)
      all_goals first
        | (go_ret; exact ⟨⟨_, rfl⟩, by repeat (first | (with_reducible exact Below.refl _ _) | exact below_step (bwA (Below.refl _ _) _) hb1 | apply bwA)⟩)
        | (refine ⟨Or.inr ⟨rfl, by repeat (first | (with_reducible exact Below.refl _ _) | exact below_step (bwA (Below.refl _ _) _) hb1 | apply bwA)⟩, ?_⟩; simp [intOf])
    · go_wp2_with fail
      go_ret
      exact ⟨⟨_, rfl⟩, hb⟩
end Go.Proofs.YthnndjlccepebaaGreatDoor.PHeavy
