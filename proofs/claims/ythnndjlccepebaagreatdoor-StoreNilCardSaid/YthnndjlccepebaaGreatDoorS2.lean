/- StoreNil lifted to what the row says. -/
import Derived.Test.YthnndjlccepebaaGreatDoorS1
import Derived.Test.YthnndjlccepebaaGreatDoorRows
import Derived.ProofKit
import Derived.LaidLaws
import Derived.Carry
set_option linter.unusedVariables false
set_option linter.unusedSimpArgs false
namespace Go.Proofs.YthnndjlccepebaaGreatDoor
open Go.ChangeShapes Go.WideShapes Go.ChangeAt Go.RowKit Go.Proofs.YthnndjlccepebaaGreatDoorW.PrintWords PHeavy
section
variable {H : Type} {enc : TypeId × Value → H} {w : World} {base : Nat} {spare : Nat → Bool} {held : Bool} {fuel : Nat}
theorem int_cell {t : TypeId} {c : Value} {o : Option (DataW H × List MemPlace)} (ht : Tryz.prog.underlying t = some (.int .i64)) (h : DataW.trod enc Tryz.prog w base spare held fuel t [c] = o) (ho : o.isSome = true) : ∃ n, c = .int .i64 n := by
  cases o with
  | none => cases ho
  | some y =>
    obtain ⟨n, h1, _⟩ := DataW.trod_int ht h
    exact ⟨n, by simpa using h1⟩
theorem slice_cell {t e : TypeId} {c : Value} {o : Option (DataW H × List MemPlace)} (ht : Tryz.prog.underlying t = some (.slice e)) (h : DataW.trod enc Tryz.prog w base spare held fuel t [c] = o) (ho : o.isSome = true) : ∃ A n k, c = .slice A n k ∧ k ≠ Am.UNK := by
  cases o with
  | none => cases ho
  | some y =>
    rcases DataW.trod_slice ht h with ⟨h1, _⟩ | ⟨a, len, cap, _, _, _, _, h1, _, _, _, hm, _⟩
    · exact ⟨none, 0, 0, by simpa using h1, by decide⟩
    · refine ⟨some a, len, cap, by simpa using h1, ?_⟩
      intro hc
      subst hc
      unfold maxLen Am.UNK at hm
      omega
theorem bytes_cell {c : Value} {o : Option (DataW H × List MemPlace)} (h : DataW.trod enc Tryz.prog w base spare held fuel 27 [c] = o) (ho : o.isSome = true) :
    ∃ A k, ∃ l : List Int, c = .slice A l.length k ∧ k ≠ Am.UNK ∧ l.length ≤ k ∧ Kd.C (Kd.int .u8) w A l.length l := by
  cases o with
  | none => cases ho
  | some y =>
    rcases open_ints Tryz.underlying27 Tryz.underlying5 (by kernel_rfl) h with ⟨h1, _⟩ | ⟨a, len, cap, zs, h1, _, hl, hm, hz, _, hcell, _⟩
    · exact ⟨none, 0, [], by simpa using h1, by decide, Nat.le_refl _, Kd.C_nil _ _⟩
    · have hlen : (zs.take len).length = len := by
        rw [List.length_take, hz]
        split <;> omega
      refine ⟨some a, cap, zs.take len, by rw [hlen]; simpa using h1, ?_, by omega, Kd.C_of_reads (h1 := fun _ => rfl) (d := 0) ⟨rfl, ?_, fun _ => ⟨a, rfl, fun j hj => ?_⟩⟩⟩
      · intro hc
        subst hc
        unfold maxLen Am.UNK at hm
        omega
      · unfold maxLen at hm
        omega
      · rw [hcell j (by rw [hz]; split <;> omega)]
        rw [hlen] at hj
        simp [List.getD_eq_getElem?_getD, hj]
theorem some_of {α : Type} {l : List α} {i : Nat} (h : i < l.length) : (l[i]?).isSome = true := by
  rw [List.getElem?_eq_getElem h]; rfl
theorem cells1 : Tryz.prog.cellsOf 2 = 1 ∧ Tryz.prog.cellsOf 3 = 1 ∧ Tryz.prog.cellsOf 23 = 4 ∧ Tryz.prog.cellsOf 25 = 2 ∧ Tryz.prog.cellsOf 26 = 1 ∧ Tryz.prog.cellsOf 27 = 1 ∧ Tryz.prog.cellsOf 28 = 1 ∧ Tryz.prog.cellsOf 30 = 14 :=
  ⟨by kernel_rfl, by kernel_rfl, by kernel_rfl, by kernel_rfl, by kernel_rfl, by kernel_rfl, by kernel_rfl, by kernel_rfl⟩
theorem cell_two {a b : Value} {o : Option (DataW H × List MemPlace)} (h : DataW.trod enc Tryz.prog w base spare held fuel 25 [a, b] = o) (ho : o.isSome = true) : ∃ p q, a = .int .i64 p ∧ b = .int .i64 q := by
  cases o with
  | none => cases ho
  | some y =>
    obtain ⟨xs, n, _, _, _, hlen, hg⟩ := DataW.trod_struct Tryz.underlying25 h
    have hl : xs.length = 2 := hlen
    have g0 : DataW.trod enc Tryz.prog w base spare held n 2 (([a, b].drop 0).take (Tryz.prog.cellsOf 2)) = xs[0]? := hg 0 _ rfl
    have g1 : DataW.trod enc Tryz.prog w base spare held n 2 (([a, b].drop 1).take (Tryz.prog.cellsOf 2)) = xs[1]? := hg 1 _ rfl
    rw [cells1.1] at g0 g1
    obtain ⟨p, hp⟩ := int_cell Tryz.underlying2 g0 (some_of (by omega))
    obtain ⟨q, hq⟩ := int_cell Tryz.underlying2 g1 (some_of (by omega))
    exact ⟨p, q, hp, hq⟩
theorem rect_four {a b c d : Value} {o : Option (DataW H × List MemPlace)} (h : DataW.trod enc Tryz.prog w base spare held fuel 23 [a, b, c, d] = o) (ho : o.isSome = true) : ∃ p q r s, a = .int .i64 p ∧ b = .int .i64 q ∧ c = .int .i64 r ∧ d = .int .i64 s := by
  cases o with
  | none => cases ho
  | some y =>
    obtain ⟨xs, n, _, _, _, hlen, hg⟩ := DataW.trod_struct Tryz.underlying23 h
    have hl : xs.length = 4 := hlen
    have g0 : DataW.trod enc Tryz.prog w base spare held n 2 (([a, b, c, d].drop 0).take (Tryz.prog.cellsOf 2)) = xs[0]? := hg 0 _ rfl
    have g1 : DataW.trod enc Tryz.prog w base spare held n 2 (([a, b, c, d].drop 1).take (Tryz.prog.cellsOf 2)) = xs[1]? := hg 1 _ rfl
    have g2 : DataW.trod enc Tryz.prog w base spare held n 2 (([a, b, c, d].drop 2).take (Tryz.prog.cellsOf 2)) = xs[2]? := hg 2 _ rfl
    have g3 : DataW.trod enc Tryz.prog w base spare held n 2 (([a, b, c, d].drop 3).take (Tryz.prog.cellsOf 2)) = xs[3]? := hg 3 _ rfl
    rw [cells1.1] at g0 g1 g2 g3
    obtain ⟨p, hp⟩ := int_cell Tryz.underlying2 g0 (some_of (by omega))
    obtain ⟨q, hq⟩ := int_cell Tryz.underlying2 g1 (some_of (by omega))
    obtain ⟨r, hr⟩ := int_cell Tryz.underlying2 g2 (some_of (by omega))
    obtain ⟨s, hs⟩ := int_cell Tryz.underlying2 g3 (some_of (by omega))
    exact ⟨p, q, r, s, hp, hq, hr, hs⟩
set_option maxRecDepth 100000 in
theorem op_open {r : Reach} {b0 : Nat} {v : Value} {d : DataW H} {p : List MemPlace} (hv : Value.okWide Tryz.prog w r b0 30 v) (h : DataW.Trod enc Tryz.prog w base spare held 30 v d p) :
    ∃ (kd x0 y0 x1 y1 ax ay bx by_ n m : Int) (A1 A2 A3 : Option Addr) (n1 n3 c1 c2 c3 : Nat) (l : List Int), v = .agg #[.int .i64 kd, .int .i64 x0, .int .i64 y0, .int .i64 x1, .int .i64 y1, .int .i64 ax, .int .i64 ay, .int .i64 bx, .int .i64 by_, .int .i64 n, .int .i64 m, .slice A1 n1 c1, .slice A2 l.length c2, .slice A3 n3 c3] ∧
      Kd.C (Kd.int .u8) w A2 l.length l ∧ l.length ≤ c2 ∧ c1 ≠ Am.UNK ∧ c2 ≠ Am.UNK ∧ c3 ≠ Am.UNK := by
  obtain ⟨cs, rfl, hsz⟩ := okWide_struct Tryz.underlying30 hv
  obtain ⟨cs⟩ := cs
  rw [cells1.2.2.2.2.2.2.2] at hsz
  match cs, hsz with
  | [v0, v1, v2, v3, v4, v5, v6, v7, v8, v9, v10, v11, v12, v13], _ =>
    obtain ⟨fuel, hf⟩ := h
    obtain ⟨xs, k, _, _, _, hlen, hg⟩ := DataW.trod_struct Tryz.underlying30 hf
    have hl : xs.length = 9 := hlen
    have g0 : DataW.trod enc Tryz.prog w base spare held k 3 (([v0, v1, v2, v3, v4, v5, v6, v7, v8, v9, v10, v11, v12, v13].drop 0).take (Tryz.prog.cellsOf 3)) = xs[0]? := hg 0 _ rfl
    have g1 : DataW.trod enc Tryz.prog w base spare held k 23 (([v0, v1, v2, v3, v4, v5, v6, v7, v8, v9, v10, v11, v12, v13].drop 1).take (Tryz.prog.cellsOf 23)) = xs[1]? := hg 1 _ rfl
    have g2 : DataW.trod enc Tryz.prog w base spare held k 25 (([v0, v1, v2, v3, v4, v5, v6, v7, v8, v9, v10, v11, v12, v13].drop 5).take (Tryz.prog.cellsOf 25)) = xs[2]? := hg 2 _ rfl
    have g3 : DataW.trod enc Tryz.prog w base spare held k 25 (([v0, v1, v2, v3, v4, v5, v6, v7, v8, v9, v10, v11, v12, v13].drop 7).take (Tryz.prog.cellsOf 25)) = xs[3]? := hg 3 _ rfl
    have g4 : DataW.trod enc Tryz.prog w base spare held k 2 (([v0, v1, v2, v3, v4, v5, v6, v7, v8, v9, v10, v11, v12, v13].drop 9).take (Tryz.prog.cellsOf 2)) = xs[4]? := hg 4 _ rfl
    have g5 : DataW.trod enc Tryz.prog w base spare held k 2 (([v0, v1, v2, v3, v4, v5, v6, v7, v8, v9, v10, v11, v12, v13].drop 10).take (Tryz.prog.cellsOf 2)) = xs[5]? := hg 5 _ rfl
    have g6 : DataW.trod enc Tryz.prog w base spare held k 26 (([v0, v1, v2, v3, v4, v5, v6, v7, v8, v9, v10, v11, v12, v13].drop 11).take (Tryz.prog.cellsOf 26)) = xs[6]? := hg 6 _ rfl
    have g7 : DataW.trod enc Tryz.prog w base spare held k 27 (([v0, v1, v2, v3, v4, v5, v6, v7, v8, v9, v10, v11, v12, v13].drop 12).take (Tryz.prog.cellsOf 27)) = xs[7]? := hg 7 _ rfl
    have g8 : DataW.trod enc Tryz.prog w base spare held k 28 (([v0, v1, v2, v3, v4, v5, v6, v7, v8, v9, v10, v11, v12, v13].drop 13).take (Tryz.prog.cellsOf 28)) = xs[8]? := hg 8 _ rfl
    obtain ⟨e2, e3, e23, e25, e26, e27, e28, _⟩ := cells1
    rw [e3] at g0
    rw [e23] at g1
    rw [e25] at g2 g3
    rw [e2] at g4 g5
    rw [e26] at g6
    rw [e27] at g7
    rw [e28] at g8
    obtain ⟨kd, rfl⟩ := int_cell Tryz.underlying3 g0 (some_of (by omega))
    obtain ⟨x0, y0, x1, y1, rfl, rfl, rfl, rfl⟩ := rect_four g1 (some_of (by omega))
    obtain ⟨ax, ay, rfl, rfl⟩ := cell_two g2 (some_of (by omega))
    obtain ⟨bx, by_, rfl, rfl⟩ := cell_two g3 (some_of (by omega))
    obtain ⟨n, rfl⟩ := int_cell Tryz.underlying2 g4 (some_of (by omega))
    obtain ⟨m, rfl⟩ := int_cell Tryz.underlying2 g5 (some_of (by omega))
    obtain ⟨A1, n1, c1, rfl, h1⟩ := slice_cell Tryz.underlying26 g6 (some_of (by omega))
    obtain ⟨A2, c2, l, rfl, h2, h2b, h2c⟩ := bytes_cell g7 (some_of (by omega))
    obtain ⟨A3, n3, c3, rfl, h3⟩ := slice_cell Tryz.underlying28 g8 (some_of (by omega))
    exact ⟨kd, x0, y0, x1, y1, ax, ay, bx, by_, n, m, A1, A2, A3, n1, n3, c1, c2, c3, l, rfl, h2c, h2b, h1, h2, h3⟩
end
theorem ownTryz : ownKnob Tryz.prog.godebug = none := by kernel_rfl
theorem laidOutTryz : laidOutB Tryz.prog = true := by kernel_rfl
def halvesCells : Array Value := #[.int .u32 0, .int .u32 274646895, .int .u32 549293790, .int .u32 820201905, .int .u32 1098587580, .int .u32 1361435347, .int .u32 1640403810, .int .u32 1905808397, .int .u32 2197175160, .int .u32 2460548119, .int .u32 2722870694, .int .u32 2987750089, .int .u32 3280807620, .int .u32 3553878443, .int .u32 3811616794, .int .u32 4084100981]
noncomputable def laidWorld (os : Os) : World :=
  { World.holding Tryz.prog os ⟨#[], #[], []⟩ with heap := (World.holding Tryz.prog os ⟨#[], #[], []⟩).heap.modify 0 fun
      | .cells _ t frozen => .cells halvesCells t frozen
      | o => o }
def op0 : Value := .agg #[.int .i64 0, .int .i64 0, .int .i64 0, .int .i64 0, .int .i64 0, .int .i64 0, .int .i64 0, .int .i64 0, .int .i64 0, .int .i64 0, .int .i64 0, .slice none 0 0, .slice none 0 0, .slice none 0 0]
set_option maxRecDepth 100000 in
theorem storeNil_lifted (os : Os) (started : os.Started) (H : Type) (enc : TypeId × Value → H) :
    ReturnsInHanded {} Tryz.checked os 3 .any (fun w args => (Rows.storeNilSpec.pre enc Tryz.prog Tryz.f3 [] false w args ∧ laidMet Tryz.prog [("hachure/crc.halves", Rows.laid_hachure_crc_halves)] w) ∧ sizedMet enc Tryz.prog Tryz.f3 (OpenSpec.ofChange Rows.storeNilSpec) false w args)
      (Rows.storeNilSpec.post enc Tryz.prog Tryz.f3 false true false false) := by
  refine returnsInHanded_of_change_and (C := Tryz.checked) (X := fun w _ => laidMet Tryz.prog [("hachure/crc.halves", Rows.laid_hachure_crc_halves)] w) (fun _ _ _ hh h => h.of_heap hh) ownTryz started (by kernel_rfl) Tryz.func3
    (ChangeSpec.witness_at (enc := enc) (C := Tryz.checked) (os := os) (X := fun w _ => laidMet Tryz.prog [("hachure/crc.halves", Rows.laid_hachure_crc_halves)] w) false (laidWorld os) #[op0] 8 rfl (by kernel_rfl) (by kernel_rfl) (by kernel_rfl) (by kernel_rfl) (by kernel_rfl)
      (laidMet_of_run' 8 (by kernel_rfl) (by kernel_rfl))) ?_
  intro W base args ds gs before hval0 hW _ _ hL _
  have hval : ∀ (j : Nat) t v, Tryz.f3.params[j]? = some t → args[j]? = some v → Value.okWide Tryz.prog W .any base t v := hval0
  have hW' := hW
  obtain ⟨p, q, hA0, hV0, rfl, hfz, hnd⟩ := hW
  have hA : DataW.TrodAll enc Tryz.prog W 0 (fun _ => true) true Tryz.f3.params.toList args.toList ds p := hA0
  have hV : DataW.TrodVars enc Tryz.prog W (fun _ => true) [] gs q := hV0
  rw [Tryz.params3] at hA hval
  obtain ⟨v0, d0, rfl, rfl, h0⟩ := trodAll_one hA
  obtain ⟨rfl, rfl⟩ : gs = [] ∧ q = [] := by
    cases gs with
    | nil => exact ⟨rfl, hV⟩
    | cons g r => exact absurd hV (by intro h; cases h)
  obtain ⟨kd, x0, y0, x1, y1, ax, ay, bx, by_, n, m, A1, A2, A3, n1, n3, c1, c2, c3, l, rfl, hr, hc2, k1, k2, k3⟩ := op_open (hval 0 30 v0 rfl rfl) h0
  have hlt : ∀ x ∈ p, x.block < W.heap.size := fun x hx => by
    have := hW'.lt x (by simpa using hx)
    exact this
  refine (storeNil_calls kd x0 y0 x1 y1 ax ay bx by_ n m A1 A2 A3 n1 n3 c1 c2 c3 l W hr hc2 k1 k2 k3).mono fun e W' ⟨he, hb⟩ => ?_
  subst he
  refine ⟨_, rfl, _, _, _, [], p, [], hW', ?_, ?_, ?_, ?_, fun h => by cases h⟩
  · exact trodAll_mk1 (shut_bool Tryz.underlying4 true)
  · exact trodAll_mk1 (Below.trod laidOutTryz (by kernel_rfl) (of_decide_eq_true (by kernel_rfl)) h0 hb hlt)
  · rfl
  · exact hb.frame _
end Go.Proofs.YthnndjlccepebaaGreatDoor
