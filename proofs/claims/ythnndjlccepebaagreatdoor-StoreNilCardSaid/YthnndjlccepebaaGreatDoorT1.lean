/- The reference Load has an answer on any bytes. -/
import Derived.Test.YthnndjlccepebaaGreatDoorP4
set_option linter.unusedVariables false
set_option linter.unusedSimpArgs false
namespace Go.Proofs.YthnndjlccepebaaGreatDoor.PHeavy
open Go.RowKit Go.Proofs.YthnndjlccepebaaGreatDoorW.PrintWords Go.Proofs.YthnndjlccepebaaGreatDoorW.PrintLast
def Tot {α : Type} (f : Nat → Option α) (P : α → Prop) : Prop := ∃ N r, (∀ k, N ≤ k → f k = some r) ∧ P r
section
variable {α β : Type} {P : α → Prop} {Q : β → Prop}
theorem Tot.done {r : α} (h : P r) : Tot (fun _ => some r) P := ⟨0, r, fun _ _ => rfl, h⟩
theorem Tot.mono {f : Nat → Option α} {P' : α → Prop} (h : Tot f P) (hp : ∀ r, P r → P' r) : Tot f P' :=
  let ⟨N, r, h1, h2⟩ := h
  ⟨N, r, h1, hp r h2⟩
theorem Tot.bind {f : Nat → Option α} {g : α → Nat → Option β} (h : Tot f P) (hg : ∀ r, P r → Tot (g r) Q) : Tot (fun k => (f k).bind fun x => g x k) Q := by
  obtain ⟨N, r, h1, h2⟩ := h
  obtain ⟨M, s, h3, h4⟩ := hg r h2
  refine ⟨max N M, s, fun k hk => ?_, h4⟩
  show (f k).bind (fun x => g x k) = some s
  rw [h1 k (by omega), Option.bind_some]
  exact h3 k (by omega)
theorem Tot.succ {f : Nat → Option α} (h : Tot (fun k => f (k + 1)) P) : Tot f P := by
  obtain ⟨N, r, h1, h2⟩ := h
  refine ⟨N + 1, r, fun k hk => ?_, h2⟩
  have h3 : f (k - 1 + 1) = some r := h1 (k - 1) (by omega)
  rwa [show k - 1 + 1 = k from by omega] at h3
theorem Tot.ite {c : Prop} [Decidable c] {f g : Nat → Option α} (h1 : c → Tot f P) (h2 : ¬ c → Tot g P) : Tot (fun k => if c then f k else g k) P := by
  by_cases h : c
  · simp only [if_pos h]; exact h1 h
  · simp only [if_neg h]; exact h2 h
theorem Tot.yes {c : Prop} [Decidable c] {f g : Nat → Option α} (hc : c) (h1 : Tot f P) : Tot (fun k => if c then f k else g k) P := by
  simp only [if_pos hc]; exact h1
theorem Tot.no {c : Prop} [Decidable c] {f g : Nat → Option α} (hc : ¬ c) (h1 : Tot g P) : Tot (fun k => if c then f k else g k) P := by
  simp only [if_neg hc]; exact h1
end
theorem w64 {x : Int} (h0 : -9223372036854775808 ≤ x) (h1 : x ≤ 9223372036854775807) : wrap64 x = x := by
  unfold wrap64; omega
abbrev Any {α : Type} : α → Prop := fun _ => True
theorem more_in {x1 : List Int} {i : Int} (h : ∀ x0, Tot (fun k => r03_More.l0 k x0 x1 (wrap64 (i + 1))) Any) : ∀ (e : Nat) (x0 j : Int), 0 ≤ j → j ≤ 8 → 8 - j = e → Tot (fun k => r03_More.l1 k x0 x1 i j) Any
  | 0, x0, j, h0, h1, he => by
    refine Tot.succ ?_
    simp only [r03_More.l1]
    exact Tot.no (by omega) (h _)
  | e + 1, x0, j, h0, h1, he => by
    refine Tot.succ ?_
    simp only [r03_More.l1]
    rw [w64 (x := j + 1) (by omega) (by omega)]
    refine Tot.yes (by omega) (Tot.ite (fun _ => ?_) (fun _ => ?_))
    · exact more_in h e _ _ (by omega) (by omega) (by omega)
    · exact more_in h e _ _ (by omega) (by omega) (by omega)
theorem more_out {x1 : List Int} (hl : x1.length ≤ 1000000000) : ∀ (d : Nat) (x0 i : Int), 0 ≤ i → i ≤ x1.length → (x1.length : Int) - i = d → Tot (fun k => r03_More.l0 k x0 x1 i) Any
  | 0, x0, i, h0, h1, hd => by
    refine Tot.succ ?_
    simp only [r03_More.l0]
    exact Tot.no (by omega) (Tot.done trivial)
  | d + 1, x0, i, h0, h1, hd => by
    refine Tot.succ ?_
    simp only [r03_More.l0]
    refine Tot.yes (by omega) (Tot.yes h0 ?_)
    refine more_in (fun y => ?_) 8 _ 0 (by omega) (by omega) (by omega)
    rw [w64 (by omega) (by omega)]
    exact more_out hl d y (i + 1) (by omega) (by omega) (by omega)
theorem sum_tot (l : List Int) (hl : l.length ≤ 1000000000) : Tot (fun k => r03_Sum.f k l) Any := by
  unfold r03_Sum.f r03_More.f
  exact (more_out hl l.length _ 0 (by omega) (by omega) (by omega)).bind fun r _ => Tot.done trivial
theorem open_tot (l : List Int) (hl : l.length ≤ 1000000000) : Tot (fun k => r03_Open.f k l) fun r => r.1.length ≤ l.length := by
  unfold r03_Open.f r03_Tail.f
  refine Tot.ite (fun _ => Tot.done (Nat.zero_le _)) (fun h => ?_)
  rw [w64 (x := (l.length : Int) - 4) (by omega) (by omega)]
  refine Tot.yes (by omega) (Tot.yes (by omega) ?_)
  refine (sum_tot _ (by rw [List.length_take]; omega)).bind fun r _ => ?_
  simp only [Option.bind_some]
  refine Tot.ite (fun _ => Tot.done ?_) (fun _ => Tot.done (Nat.zero_le _))
  show (l.take _).length ≤ _
  rw [List.length_take]; omega
theorem wire_down {x0 : List Int} (hl : x0.length ≤ 1000000000) {x1 x2 : Int} (h1 : 0 ≤ x1) (h2 : x1 + x2 ≤ x0.length) : ∀ (d : Nat) (x9 j : Int), -1 ≤ j → j < x2 → j + 1 = d → Tot (fun k => r12_Get.l0 k x0 x1 x2 x9 j) Any
  | 0, x9, j, ha, hb, hd => by
    refine Tot.succ ?_
    simp only [r12_Get.l0]
    exact Tot.no (by omega) (Tot.done trivial)
  | d + 1, x9, j, ha, hb, hd => by
    refine Tot.succ ?_
    simp only [r12_Get.l0]
    rw [w64 (x := x1 + j) (by omega) (by omega), w64 (x := j - 1) (by omega) (by omega)]
    refine Tot.yes (by omega) (Tot.yes (by omega) (Tot.yes (by omega) ?_))
    exact wire_down hl h1 h2 d _ (j - 1) (by omega) (by omega) (by omega)
theorem wire_j {l : List Int} (hl : l.length ≤ 1000000000) {a n : Int} (ha : 0 ≤ a) (ha2 : a ≤ 1000000000) (hn : 1 ≤ n) (hn8 : n ≤ 8) (b : Bool) : Tot (fun k => r12_Get.j0 k l a n b) Any := by
  refine Tot.succ ?_
  simp only [r12_Get.j0]
  rw [w64 (x := (l.length : Int) - a) (by omega) (by omega), w64 (x := n - 1) (by omega) (by omega)]
  refine Tot.ite (fun _ => Tot.done trivial) (fun _ => Tot.ite (fun _ => Tot.done trivial) (fun h => ?_))
  exact wire_down hl ha (by omega) n.toNat 0 (n - 1) (by omega) (by omega) (by omega)
theorem get_tot {l : List Int} (hl : l.length ≤ 1000000000) {a n : Int} (ha : 0 ≤ a) (ha2 : a ≤ 1000000000) (hn : 1 ≤ n) (hn8 : n ≤ 8) : Tot (fun k => r13_get.f k l a n) Any := by
  unfold r13_get.f r12_Get.f
  refine Tot.bind (P := Any) ?_ fun r _ => Tot.done trivial
  exact Tot.no (by omega) (Tot.no (by omega) (Tot.no (by omega) (wire_j hl ha ha2 hn hn8 _)))
theorem right_tot (a b c d : Int) : ∃ r, r07_Right.f a b c d = some r ∧ (0 ≤ a → a ≤ c → c < 1024 → 0 ≤ b → b ≤ d → d < 1024 → r = true) := by
  unfold r07_Right.f
  repeat' split
  all_goals first
    | exact ⟨_, rfl, fun _ _ _ _ _ h => by simpa using h⟩
    | exact ⟨_, rfl, fun _ _ _ _ _ _ => by omega⟩
theorem meet_tot (a b c d e f g h : Int) : Tot (fun k => r07_Meet.f k a b c d e f g h) Any := by
  have j3 : ∀ a b c d e f g h, Tot (fun k => r07_Meet.j3 k a b c d e f g h) Any := fun a b c d e f g h => by
    refine Tot.succ ?_
    simp only [r07_Meet.j3]
    repeat' first | exact Tot.done trivial | refine Tot.ite (fun _ => ?_) (fun _ => ?_)
  have j2 : ∀ a b c d e f g h, Tot (fun k => r07_Meet.j2 k a b c d e f g h) Any := fun a b c d e f g h => by
    refine Tot.succ ?_
    simp only [r07_Meet.j2]
    exact Tot.ite (fun _ => j3 ..) (fun _ => j3 ..)
  have j1 : ∀ a b c d e f g h, Tot (fun k => r07_Meet.j1 k a b c d e f g h) Any := fun a b c d e f g h => by
    refine Tot.succ ?_
    simp only [r07_Meet.j1]
    exact Tot.ite (fun _ => j2 ..) (fun _ => j2 ..)
  have j0 : ∀ x a b c d e f g h, Tot (fun k => r07_Meet.j0 k x a b c d e f g h) Any := fun x a b c d e f g h => by
    refine Tot.succ ?_
    simp only [r07_Meet.j0]
    exact Tot.ite (fun _ => Tot.done trivial) (fun _ => Tot.ite (fun _ => j1 ..) (fun _ => j1 ..))
  unfold r07_Meet.f
  obtain ⟨r, hr, _⟩ := right_tot a b c d
  obtain ⟨s, hs, _⟩ := right_tot e f g h
  simp only [hr, hs, Option.bind_some]
  exact Tot.ite (fun _ => j0 ..) (fun _ => j0 ..)
theorem pieces_in {a b c d : Int} {y : Int} (h : ∀ x3 : List S23, (x3.length : Int) ≤ 64 * (y + 1) → Tot (fun k => r07_Pieces.l0 k x3 (wrap64 (y + 1)) a b c d) fun r => r.length ≤ 4096) (hy : 0 ≤ y) (hy2 : y < 64) :
    ∀ (n : Nat) (x3 : List S23) (x : Int), 0 ≤ x → x ≤ 64 → 64 - x = n → (x3.length : Int) ≤ 64 * y + x → Tot (fun k => r07_Pieces.l1 k x3 y x a b c d) fun r => r.length ≤ 4096
  | 0, x3, x, h0, h1, hn, hl => by
    refine Tot.succ ?_
    simp only [r07_Pieces.l1]
    exact Tot.no (by omega) (h _ (by omega))
  | n + 1, x3, x, h0, h1, hn, hl => by
    refine Tot.succ ?_
    simp only [r07_Pieces.l1]
    refine Tot.yes (by omega) ((meet_tot ..).bind fun r _ => ?_)
    rw [w64 (x := x + 1) (by omega) (by omega)]
    refine Tot.ite (fun _ => Tot.yes (by omega) ?_) (fun _ => ?_)
    · exact pieces_in h hy hy2 n _ (x + 1) (by omega) (by omega) (by omega) (by rw [List.length_append]; simp only [List.length_cons, List.length_nil]; omega)
    · exact pieces_in h hy hy2 n _ (x + 1) (by omega) (by omega) (by omega) (by omega)
theorem pieces_out {a b c d : Int} : ∀ (n : Nat) (x3 : List S23) (y : Int), 0 ≤ y → y ≤ 64 → 64 - y = n → (x3.length : Int) ≤ 64 * y → Tot (fun k => r07_Pieces.l0 k x3 y a b c d) fun r => r.length ≤ 4096
  | 0, x3, y, h0, h1, hn, hl => by
    refine Tot.succ ?_
    simp only [r07_Pieces.l0]
    exact Tot.no (by omega) (Tot.done (by omega))
  | n + 1, x3, y, h0, h1, hn, hl => by
    refine Tot.succ ?_
    simp only [r07_Pieces.l0]
    refine Tot.yes (by omega) (pieces_in (fun z hz => ?_) h0 (by omega) 64 x3 0 (by omega) (by omega) (by omega) (by omega))
    rw [w64 (by omega) (by omega)]
    exact pieces_out n z (y + 1) (by omega) (by omega) (by omega) hz
theorem pieces_tot (a b c d : Int) : Tot (fun k => r07_Pieces.f k a b c d) fun r => r.length ≤ 4096 := by
  unfold r07_Pieces.f
  exact pieces_out 64 [] 0 (by omega) (by omega) (by omega) (by simp)
theorem tiles_tot (w h : Int) : Tot (fun k => r13_Tiles.f k w h) fun r => r.2 = 0 → 1 ≤ w ∧ w ≤ 1024 ∧ 1 ≤ h ∧ h ≤ 1024 ∧ ∃ l : List S23, r.1 = l.length ∧ l.length ≤ 4096 ∧ Tot (fun k => r07_Pieces.f k 0 0 (wrap64 (w - 1)) (wrap64 (h - 1))) fun s => s = l := by
  unfold r13_Tiles.f
  refine Tot.ite (fun _ => Tot.done (fun h => by simp at h)) (fun h1 => ?_)
  refine Tot.ite (fun _ => Tot.done (fun h => by simp at h)) (fun h2 => ?_)
  refine Tot.ite (fun _ => Tot.done (fun h => by simp at h)) (fun h3 => ?_)
  refine Tot.ite (fun _ => Tot.done (fun h => by simp at h)) (fun h4 => ?_)
  have hp := pieces_tot 0 0 (wrap64 (w - 1)) (wrap64 (h - 1))
  obtain ⟨N, l, h5, h6⟩ := hp
  refine Tot.bind (P := fun s => s = l) ⟨N, l, h5, rfl⟩ fun s hs => Tot.done fun _ => ?_
  subst hs
  exact ⟨by omega, by omega, by omega, by omega, s, rfl, h6, N, s, h5, rfl⟩
structure Good (e : S95) : Prop where
  at0 : 0 ≤ e.f0
  at1 : e.f0 ≤ 1000000000000
  len0 : 1 ≤ e.f1
  len1 : e.f1 ≤ 1048576
def DirOk (n : Int) (r : Int × Int × List S95 × Int) (w h : Int) : Prop := r.2.2.2 = 0 → r.1 = w ∧ r.2.1 = h ∧ (r.2.2.1.length : Int) = n ∧ ∀ e ∈ r.2.2.1, Good e
theorem dir_loop {x0 : List Int} (hl : x0.length ≤ 1000000000) {w h n : Int} (hn0 : 0 ≤ n) (hn : n ≤ 4096) : ∀ (d : Nat) (at_ : Int) (es : List S95) (i : Int), 0 ≤ i → i ≤ n → n - i = d → (es.length : Int) = i → 0 ≤ at_ → at_ ≤ 100000 + 1048576 * i → (∀ e ∈ es, Good e) →
    Tot (fun k => r13_Get.l0 k x0 w h n at_ es i) fun r => DirOk n r w h
  | 0, at_, es, i, h0, h1, hd, he, ha, hb, hg => by
    refine Tot.succ ?_
    simp only [r13_Get.l0]
    exact Tot.no (by omega) (Tot.done fun _ => ⟨rfl, rfl, by show (es.length : Int) = n; omega, hg⟩)
  | d + 1, at_, es, i, h0, h1, hd, he, ha, hb, hg => by
    refine Tot.succ ?_
    simp only [r13_Get.l0]
    rw [w64 (x := 8 * i) (by omega) (by omega), w64 (x := 13 + 8 * i) (by omega) (by omega), w64 (x := 17 + 8 * i) (by omega) (by omega), w64 (x := i + 1) (by omega) (by omega)]
    refine Tot.yes (by omega) ((get_tot hl (by omega) (by omega) (by omega) (by omega)).bind fun p _ => ?_)
    refine (get_tot hl (by omega) (by omega) (by omega) (by omega)).bind fun q _ => ?_
    refine Tot.ite (fun e1 => Tot.ite (fun _ => Tot.done fun hh => by simp at hh) (fun e2 => Tot.ite (fun _ => Tot.done fun hh => by simp at hh) (fun e3 => Tot.yes (by omega) ?_))) (fun _ => Tot.done fun hh => by simp at hh)
    rw [w64 (x := at_ + q) (by omega) (by omega)]
    refine dir_loop hl hn0 hn d (at_ + q) _ (i + 1) (by omega) (by omega) (by omega) (by rw [List.length_append]; simp only [List.length_cons, List.length_nil]; omega) (by omega) (by omega) fun e hem => ?_
    rcases List.mem_append.1 hem with h2 | h2
    · exact hg e h2
    · have : e = ⟨p, q⟩ := by simpa using h2
      subst this
      exact ⟨by show 0 ≤ p; omega, by show p ≤ _; omega, by show 1 ≤ q; omega, by show q ≤ _; omega⟩
def HeadOk (r : Int × Int × List S95 × Int) : Prop := r.2.2.2 = 0 → 1 ≤ r.1 ∧ r.1 ≤ 1024 ∧ 1 ≤ r.2.1 ∧ r.2.1 ≤ 1024 ∧ (∀ e ∈ r.2.2.1, Good e) ∧
  ∃ l : List S23, r.2.2.1.length = l.length ∧ l.length ≤ 4096 ∧ Tot (fun k => r07_Pieces.f k 0 0 (wrap64 (r.1 - 1)) (wrap64 (r.2.1 - 1))) fun s => s = l
theorem head_tot (l : List Int) (hl : l.length ≤ 1000000000) : Tot (fun k => r13_Get.f k l) HeadOk := by
  have no : ∀ (a b : Int) (c : List S95) (e : Int), e ≠ 0 → HeadOk (a, b, c, e) := fun a b c e h hh => absurd hh h
  unfold r13_Get.f
  refine Tot.ite (fun _ => Tot.done (no _ _ _ _ (by omega))) (fun h13 => Tot.yes (by omega) ?_)
  refine Tot.ite (fun _ => ?_) (fun _ => Tot.done (no _ _ _ _ (by omega)))
  refine (get_tot hl (by omega) (by omega) (by omega) (by omega)).bind fun w _ => ?_
  refine (get_tot hl (by omega) (by omega) (by omega) (by omega)).bind fun h _ => ?_
  refine (tiles_tot _ _).bind fun n hn => ?_
  refine Tot.ite (fun h0 => ?_) (fun h0 => Tot.done (no _ _ _ _ h0))
  refine (get_tot hl (by omega) (by omega) (by omega) (by omega)).bind fun m _ => ?_
  refine Tot.ite (fun _ => ?_) (fun _ => Tot.done (no _ _ _ _ (by omega)))
  refine Tot.ite (fun _ => Tot.done (no _ _ _ _ (by omega))) (fun hlt => ?_)
  obtain ⟨h1, h2, h3, h4, t, ht, ht2, hp⟩ := hn h0
  have h5 : 0 ≤ n.1 := by omega
  have h6 : n.1 ≤ 4096 := by omega
  rw [w64 (x := 8 * n.1) (by omega) (by omega), w64 (x := 13 + 8 * n.1) (by omega) (by omega)]
  refine (dir_loop hl h5 h6 n.1.toNat _ [] 0 (by omega) (by omega) (by omega) (by simp) (by omega) (by omega) (by simp)).mono fun r hr he => ?_
  obtain ⟨e1, e2, e3, e4⟩ := hr he
  rw [e1, e2]
  exact ⟨h1, h2, h3, h4, e4, t, by omega, ht2, hp⟩
theorem may_tot (v : Int) : ∃ b, r04_May.f v = some b := by
  unfold r04_May.f
  split <;> exact ⟨_, rfl⟩
theorem fill_loop {w h v : Int} (hw : 1 ≤ w) (hw2 : w ≤ 1024) (hh : 1 ≤ h) (hh2 : h ≤ 1024) : ∀ (d : Nat) (i : Int) (l : List Int), 0 ≤ i → i ≤ w * h → w * h - i = d → (l.length : Int) = i →
    Tot (fun k => r08_New.l0 k w h v i w h l) fun r => r.1 = w ∧ r.2.1 = h ∧ (r.2.2.1.length : Int) = w * h
  | d, i, l, h0, h1, hd, he => by
    have hm : w * h ≤ 1048576 := by
      have := Int.mul_le_mul hw2 hh2 (by omega) (by omega : (0 : Int) ≤ 1024)
      omega
    refine Tot.succ ?_
    simp only [r08_New.l0]
    rw [w64 (x := w * h) (by omega) (by omega), w64 (x := i + 1) (by omega) (by omega)]
    match d, hd with
    | 0, hd => exact Tot.no (by omega) (Tot.done ⟨rfl, rfl, by show (l.length : Int) = w * h; omega⟩)
    | d + 1, hd =>
      refine Tot.yes (by omega) (Tot.yes (by omega) ?_)
      exact fill_loop hw hw2 hh hh2 d (i + 1) _ (by omega) (by omega) (by omega) (by rw [List.length_append]; simp only [List.length_cons, List.length_nil]; omega)
theorem new_tot {w h : Int} (hw : 1 ≤ w) (hw2 : w ≤ 1024) (hh : 1 ≤ h) (hh2 : h ≤ 1024) : Tot (fun k => r09_New.f k w h 0) fun r => r.1 = w ∧ r.2.1 = h ∧ (r.2.2.1.length : Int) = w * h := by
  have key : Tot (fun k => r08_New.f k w h 0 1024) fun r => r.1 = w ∧ r.2.1 = h ∧ (r.2.2.1.length : Int) = w * h := by
    unfold r08_New.f
    refine Tot.no (by omega) (Tot.no (by omega) (Tot.no (by omega) ?_))
    refine Tot.succ ?_
    simp only [r08_New.j0]
    refine Tot.no (by simpa using hh2) ?_
    have : r04_May.f 0 = some true := by unfold r04_May.f; simp
    simp only [this, Option.bind_some]
    refine Tot.yes trivial ?_
    have hpos : 0 ≤ w * h := Int.mul_nonneg (by omega) (by omega)
    exact fill_loop hw hw2 hh hh2 (w * h).toNat 0 [] (by omega) hpos (by omega) (by simp)
  unfold r09_New.f
  exact key.bind fun r hr => Tot.done hr
def LebOk (len : Nat) (r : Int × Int × Int) : Prop := r.2.2 = 0 → 0 ≤ r.1 ∧ 0 ≤ r.2.1 ∧ r.2.1 ≤ len
theorem u64_nonneg (x : Int) : 0 ≤ IntKind.u64.wrap x := by
  simp [IntKind.wrap, IntKind.signed, IntKind.bits]
  omega
theorem leb_loop {l : List Int} (hl : l.length ≤ 1000000000) {a : Int} (ha : 0 ≤ a) (ha2 : a ≤ l.length) : ∀ (d : Nat) (u p j : Int), 0 ≤ j → j ≤ 10 → 10 - j = d → Tot (fun k => r02_Get.l0 k l a u p j) (LebOk l.length)
  | 0, u, p, j, h0, h1, hd => by
    refine Tot.succ ?_
    simp only [r02_Get.l0]
    exact Tot.no (by omega) (Tot.done fun h => by simp at h)
  | d + 1, u, p, j, h0, h1, hd => by
    refine Tot.succ ?_
    simp only [r02_Get.l0]
    rw [w64 (x := (l.length : Int) - a) (by omega) (by omega), w64 (x := a + j) (by omega) (by omega)]
    refine Tot.yes (by omega) (Tot.ite (fun _ => Tot.done fun h => by simp at h) (fun h2 => ?_))
    have in_ : ∀ (c : Int) (b : Bool), Tot (fun k => r02_Get.j2 k l a u p j c b) (LebOk l.length) := fun c b => by
      refine Tot.succ ?_
      simp only [r02_Get.j2]
      rw [w64 (x := a + j) (by omega) (by omega), w64 (x := a + j + 1) (by omega) (by omega), w64 (x := j + 1) (by omega) (by omega)]
      refine Tot.ite (fun _ => Tot.done fun h => by simp at h) (fun _ => Tot.ite (fun _ => Tot.done fun _ => ⟨u64_nonneg _, by show 0 ≤ a + j + 1; omega, by show a + j + 1 ≤ _; omega⟩) (fun _ => ?_))
      exact leb_loop hl ha ha2 d _ _ (j + 1) (by omega) (by omega) (by omega)
    refine Tot.yes (by omega) (Tot.yes (by omega) ?_)
    repeat' first | exact in_ _ _ | refine Tot.ite (fun _ => ?_) (fun _ => ?_)
theorem leb_tot {l : List Int} (hl : l.length ≤ 1000000000) {a : Int} (ha : 0 ≤ a) (ha2 : a ≤ l.length) : Tot (fun k => r02_Get.f k l a) (LebOk l.length) := by
  unfold r02_Get.f
  refine Tot.no (by omega) (Tot.succ ?_)
  simp only [r02_Get.j0]
  refine Tot.no (by simpa using ha2) ?_
  exact leb_loop hl ha ha2 10 _ _ 0 (by omega) (by omega) (by omega)
theorem unfold_tot (u : Int) : ∃ r, r02_Unfold.f u = some r := by
  unfold r02_Unfold.f
  split <;> exact ⟨_, rfl⟩
def RunOk (len : Nat) (r : List Int × Int × Int) : Prop := r.1.length ≤ 1000 ∧ 0 ≤ r.2.1 ∧ r.2.1 ≤ len
theorem zeros_loop {l : List Int} {n u e m : Int} (hn : n ≤ 256) (hu : u ≤ 1000000) (h : ∀ z : List Int, (z.length : Int) ≤ n → m ≤ z.length → Tot (fun k => r05_Get.l0 k l e n z true) (RunOk l.length)) :
    ∀ (d : Nat) (z : List Int) (i : Int), 0 ≤ i → i ≤ u + 1 → u + 1 - i = d → (z.length : Int) + d ≤ n → m ≤ z.length + d → Tot (fun k => r05_Get.l1 k l n z u e i) (RunOk l.length)
  | 0, z, i, h0, h1, hd, hz, hm => by
    refine Tot.succ ?_
    simp only [r05_Get.l1]
    exact Tot.no (by omega) (h z (by omega) (by omega))
  | d + 1, z, i, h0, h1, hd, hz, hm => by
    refine Tot.succ ?_
    simp only [r05_Get.l1]
    have : IntKind.u64.wrap (i + 1) = i + 1 := by
      simp [IntKind.wrap, IntKind.signed, IntKind.bits]
      omega
    rw [this]
    refine Tot.yes (by omega) (Tot.yes (by omega) ?_)
    exact zeros_loop hn hu h d _ (i + 1) (by omega) (by omega) (by omega) (by rw [List.length_append]; simp only [List.length_cons, List.length_nil]; omega) (by rw [List.length_append]; simp only [List.length_cons, List.length_nil]; omega)
end Go.Proofs.YthnndjlccepebaaGreatDoor.PHeavy
namespace Go.Proofs.YthnndjlccepebaaGreatDoor.PHeavy
open Go.RowKit Go.Proofs.YthnndjlccepebaaGreatDoorW.PrintWords Go.Proofs.YthnndjlccepebaaGreatDoorW.PrintLast
theorem u64_small {x : Int} (h0 : 0 ≤ x) (h1 : x ≤ 1000000) : IntKind.u64.wrap x = x := by
  simp [IntKind.wrap, IntKind.signed, IntKind.bits]
  omega
theorem runs_loop {l : List Int} (hl : l.length ≤ 1000000000) {n : Int} (hn : n ≤ 256) (hn0 : 0 ≤ n) : ∀ (d : Nat) (a : Int) (z : List Int) (b : Bool), 0 ≤ a → a ≤ l.length → (z.length : Int) ≤ n → n - z.length ≤ d →
    Tot (fun k => r05_Get.l0 k l a n z b) (RunOk l.length)
  | d, a, z, b, ha, ha2, hz, hd => by
    have bad : ∀ e : Int, RunOk l.length (([] : List Int), 0, e) := fun e => ⟨by simp, by show (0 : Int) ≤ 0; omega, by show (0 : Int) ≤ _; omega⟩
    refine Tot.succ ?_
    simp only [r05_Get.l0]
    refine Tot.ite (fun hlt => ?_) (fun _ => Tot.done ⟨by show z.length ≤ _; omega, ha, ha2⟩)
    match d, hd with
    | 0, hd => omega
    | d + 1, hd =>
      refine (leb_tot hl ha ha2).bind fun r hr => Tot.ite (fun h0 => ?_) (fun _ => Tot.done (bad _))
      obtain ⟨r1, r2, r3⟩ := hr h0
      refine Tot.ite (fun _ => ?_) (fun hu => Tot.ite (fun _ => Tot.done (bad _)) (fun _ => ?_))
      · obtain ⟨v, hv⟩ := unfold_tot r.1
        simp only [hv, Option.bind_some]
        refine Tot.yes (by omega) ?_
        exact runs_loop hl hn hn0 d _ _ _ r2 r3 (by rw [List.length_append]; simp only [List.length_cons, List.length_nil]; omega) (by rw [List.length_append]; simp only [List.length_cons, List.length_nil]; omega)
      · refine (leb_tot hl r2 r3).bind fun s hs => Tot.ite (fun h1 => ?_) (fun _ => Tot.done (bad _))
        obtain ⟨s1, s2, s3⟩ := hs h1
        rw [w64 (x := n - z.length) (by omega) (by omega), w64 (x := n - z.length - 1) (by omega) (by omega), u64_small (x := n - z.length - 1) (by omega) (by omega)]
        refine Tot.ite (fun _ => Tot.done (bad _)) (fun h2 => ?_)
        refine zeros_loop (m := z.length + 1) hn (by omega) (fun y hy hy2 => ?_) (s.1 + 1).toNat z 0 (by omega) (by omega) (by omega) (by omega) (by omega)
        exact runs_loop hl hn hn0 d _ _ _ s2 s3 hy (by omega)
theorem runs_tot {l : List Int} (hl : l.length ≤ 1000000000) {n : Int} (hn : n ≤ 256) (hn0 : 0 ≤ n) (h1 : 1 ≤ l.length) : Tot (fun k => r05_Get.f k l 1 n) (RunOk l.length) := by
  unfold r05_Get.f
  refine Tot.no (by omega) (Tot.no (by omega) (Tot.no (by omega) (Tot.succ ?_)))
  simp only [r05_Get.j0]
  refine Tot.no (by simp; omega) ?_
  exact runs_loop hl hn hn0 n.toNat 1 [] false (by omega) (by omega) (by simp; omega) (by simp; omega)
theorem at_tot {l : List Int} {w x y : Int} (h0 : 0 ≤ y * w + x) (h1 : y * w + x < l.length) (hl : l.length ≤ 1000000) (hy : -1000000 ≤ y * w) (hy2 : y * w ≤ 1000000) : ∃ r, r04_at.f l w x y = some r := by
  unfold r04_at.f
  rw [w64 (x := y * w) (by omega) (by omega), w64 (x := y * w + x) (by omega) (by omega), if_pos h0, if_pos h1]
  exact ⟨_, rfl⟩
theorem guess_end (a b c : Int) (x : Bool) : Tot (fun k => r04_Guess.j2 k a b c x) Any := by
  have j3 : ∀ a b c x, Tot (fun k => r04_Guess.j3 k a b c x) Any := fun a b c x => by
    refine Tot.succ ?_
    simp only [r04_Guess.j3]
    repeat' first | exact Tot.done trivial | refine Tot.ite (fun _ => ?_) (fun _ => ?_)
  refine Tot.succ ?_
  simp only [r04_Guess.j2]
  repeat' first | exact Tot.done trivial | exact j3 _ _ _ _ | refine Tot.ite (fun _ => ?_) (fun _ => ?_)
theorem guess_tot (kind : Int) {l : List Int} {w i : Int} (hw : 1 ≤ w) (hw2 : w ≤ 16) (hi : 0 ≤ i) (hil : (l.length : Int) = i) (hl : l.length ≤ 1000) : Tot (fun k => r04_Guess.f k kind l w i) Any := by
  have hm : Int.tmod i w = i % w := Int.tmod_eq_emod_of_nonneg hi
  have hdv : Int.tdiv i w = i / w := Int.tdiv_eq_ediv_of_nonneg hi
  have e1 : w * (i / w) + i % w = i := Int.mul_ediv_add_emod i w
  have e2 : 0 ≤ i % w := Int.emod_nonneg _ (by omega)
  have e3 : i % w < w := Int.emod_lt_of_pos _ (by omega)
  have e4 : 0 ≤ i / w := Int.ediv_nonneg hi (by omega)
  have e5 : i / w ≤ i := Int.ediv_le_self _ hi
  unfold r04_Guess.f
  rw [hm, hdv, w64 (x := i / w) (by omega) (by omega)]
  generalize hx : i % w = x at *
  generalize hy : i / w = y at *
  have e6 : y * w = w * y := Int.mul_comm _ _
  have e7 : (y - 1) * w = w * y - w := by rw [Int.sub_mul, e6]; omega
  have e8 : 0 ≤ w * y := Int.mul_nonneg (by omega) e4
  have j1 : ∀ (p : Int) (b : Bool), (b = false → y ≠ 0) → x ≠ 0 → Tot (fun k => r04_Guess.j1 k l w x y p b) Any := fun p b hb hx0 => by
    refine Tot.succ ?_
    simp only [r04_Guess.j1]
    refine Tot.ite (fun _ => Tot.done trivial) (fun hbf => ?_)
    have hy0 := hb (by simpa using hbf)
    have hy1 : 1 ≤ y := by omega
    have hwy : w ≤ w * y := by
      have := Int.mul_le_mul_of_nonneg_left hy1 (by omega : 0 ≤ w)
      omega
    rw [w64 (x := y - 1) (by omega) (by omega), w64 (x := x - 1) (by omega) (by omega)]
    obtain ⟨r, hr⟩ := at_tot (l := l) (w := w) (x := x) (y := y - 1) (by omega) (by omega) (by omega) (by omega) (by omega)
    obtain ⟨s, hs⟩ := at_tot (l := l) (w := w) (x := x - 1) (y := y - 1) (by omega) (by omega) (by omega) (by omega) (by omega)
    simp only [hr, hs, Option.bind_some]
    exact Tot.ite (fun _ => guess_end ..) (fun _ => guess_end ..)
  have j0 : ∀ b : Bool, (b = false → ¬ (x = 0 ∧ y = 0)) → Tot (fun k => r04_Guess.j0 k kind l w x y b) Any := fun b hb => by
    refine Tot.succ ?_
    simp only [r04_Guess.j0]
    refine Tot.ite (fun _ => Tot.done trivial) (fun hbf => ?_)
    have hne := hb (by simpa using hbf)
    refine Tot.ite (fun h0 => ?_) (fun h0 => ?_)
    · have hy1 : 1 ≤ y := by omega
      have hwy : w ≤ w * y := by
        have := Int.mul_le_mul_of_nonneg_left hy1 (by omega : 0 ≤ w)
        omega
      rw [w64 (x := y - 1) (by omega) (by omega)]
      obtain ⟨r, hr⟩ := at_tot (l := l) (w := w) (x := 0) (y := y - 1) (by omega) (by omega) (by omega) (by omega) (by omega)
      simp only [hr, Option.bind_some]
      exact Tot.done trivial
    · rw [w64 (x := x - 1) (by omega) (by omega)]
      obtain ⟨r, hr⟩ := at_tot (l := l) (w := w) (x := x - 1) (y := y) (by omega) (by omega) (by omega) (by omega) (by omega)
      simp only [hr, Option.bind_some]
      exact Tot.ite (fun _ => j1 _ _ (by simp) h0) (fun _ => j1 _ _ (by simp) h0)
  refine Tot.no (by omega) (Tot.ite (fun _ => j0 _ (by simp)) (fun _ => Tot.ite (fun h0 => j0 _ (by simp; omega)) (fun h0 => j0 _ (by simp; omega))))
theorem cells_loop (kind : Int) {r : List Int} {w : Int} (hw : 1 ≤ w) (hw2 : w ≤ 16) (hr : r.length ≤ 1000) : ∀ (d : Nat) (out : List Int) (i : Int), 0 ≤ i → i ≤ r.length → (r.length : Int) - i = d → (out.length : Int) = i →
    Tot (fun k => r04_Cells.l0 k kind r w out i) Any
  | 0, out, i, h0, h1, hd, ho => by
    refine Tot.succ ?_
    simp only [r04_Cells.l0]
    exact Tot.no (by omega) (Tot.done trivial)
  | d + 1, out, i, h0, h1, hd, ho => by
    refine Tot.succ ?_
    simp only [r04_Cells.l0]
    refine Tot.yes (by omega) ((guess_tot kind hw hw2 h0 ho (by omega)).bind fun g _ => Tot.yes h0 ?_)
    refine Tot.ite (fun _ => Tot.done trivial) (fun _ => Tot.ite (fun _ => Tot.done trivial) (fun _ => Tot.yes (by omega) ?_))
    rw [w64 (x := i + 1) (by omega) (by omega)]
    exact cells_loop kind hw hw2 hr d _ (i + 1) (by omega) (by omega) (by omega) (by rw [List.length_append]; simp only [List.length_cons, List.length_nil]; omega)
theorem cells_tot (kind : Int) {r : List Int} {w : Int} (hw : 1 ≤ w) (hw2 : w ≤ 16) (hr : r.length ≤ 1000) : Tot (fun k => r04_Cells.f k kind r w) Any := by
  have hR : ∃ b, r04_Right.f kind w r.length = some b := by
    unfold r04_Right.f
    rw [if_pos (by omega : w > 0), if_pos (by omega : (r.length : Int) ≥ 0), if_neg (by omega : ¬ w = 0)]
    repeat' split
    all_goals exact ⟨_, rfl⟩
  obtain ⟨b, hb⟩ := hR
  unfold r04_Cells.f
  simp only [hb, Option.bind_some]
  refine Tot.ite (fun _ => ?_) (fun _ => Tot.done trivial)
  exact cells_loop kind hw hw2 hr r.length [] 0 (by omega) (by omega) (by omega) (by simp)
theorem tile_tot {l : List Int} (hl : l.length ≤ 1000000000) (a b : Int) : Tot (fun k => r06_Get.f k l a b) Any := by
  unfold r06_Get.f
  have hR : ∃ r, r06_Right.f a b = some r ∧ (r = true → 0 < a ∧ a < 17 ∧ 0 < b ∧ b < 17) := by
    unfold r06_Right.f
    repeat' split
    all_goals first
      | exact ⟨_, rfl, fun h => by simp at h; omega⟩
      | exact ⟨_, rfl, fun h => by simp at h⟩
  obtain ⟨r, hr, hr2⟩ := hR
  simp only [hr, Option.bind_some]
  refine Tot.ite (fun h => ?_) (fun _ => Tot.done trivial)
  obtain ⟨h1, h2, h3, h4⟩ := hr2 h
  refine Tot.ite (fun _ => Tot.done trivial) (fun h5 => Tot.yes (by omega) (Tot.ite (fun _ => Tot.done trivial) (fun _ => ?_)))
  have hp : 0 ≤ a * b := Int.mul_nonneg (by omega) (by omega)
  have hp2 : a * b ≤ 256 := by
    have := Int.mul_le_mul (by omega : a ≤ 16) (by omega : b ≤ 16) (by omega) (by omega : (0 : Int) ≤ 16)
    omega
  rw [w64 (x := a * b) (by omega) (by omega)]
  refine (runs_tot hl hp2 hp (by omega)).bind fun s hs => Tot.ite (fun _ => Tot.ite (fun _ => Tot.done trivial) (fun _ => ?_)) (fun _ => Tot.done trivial)
  refine (cells_tot _ (by omega) (by omega) hs.1).bind fun c _ => Tot.ite (fun _ => Tot.done trivial) (fun _ => Tot.done trivial)
theorem within_tot (x0 y0 x1 y1 w h : Int) : Tot (fun k => r07_Within.f k x0 y0 x1 y1 w h) fun r => r = 0 → 1 ≤ w ∧ w ≤ 1024 ∧ 1 ≤ h ∧ h ≤ 1024 ∧ 0 ≤ x0 ∧ x0 ≤ x1 ∧ x1 < w ∧ 0 ≤ y0 ∧ y0 ≤ y1 ∧ y1 < h := by
  have j1 : ∀ (b : Bool) (P : Int → Prop), (∀ r, r ≠ 0 → P r) → (b = false → x0 ≤ x1 → y0 ≤ y1 → P 0) → Tot (fun k => r07_Within.j1 k b x0 y0 x1 y1) P := fun b P h1 h2 => by
    refine Tot.succ ?_
    simp only [r07_Within.j1]
    refine Tot.ite (fun _ => Tot.done (h1 _ (by omega))) (fun hb => Tot.ite (fun _ => Tot.done (h1 _ (by omega))) (fun _ => Tot.ite (fun _ => Tot.done (h1 _ (by omega))) (fun _ => Tot.done (h2 (by simpa using hb) (by omega) (by omega)))))
  have j0 : ∀ (b : Bool) (P : Int → Prop), (∀ r, r ≠ 0 → P r) → (b = false → 0 ≤ x0 → x0 ≤ x1 → x1 < w → 0 ≤ y0 → y0 ≤ y1 → y1 < h → P 0) → Tot (fun k => r07_Within.j0 k w h b x0 y0 x1 y1) P := fun b P h1 h2 => by
    refine Tot.succ ?_
    simp only [r07_Within.j0]
    refine Tot.ite (fun _ => Tot.done (h1 _ (by omega))) (fun hb => ?_)
    repeat' first
      | exact j1 true _ h1 (fun h => by cases h)
      | exact j1 _ _ h1 (fun hf _ _ => h2 (by simpa using hb) (by omega) (by omega) (by omega) (by omega) (by omega) (by simp at hf; omega))
      | refine Tot.ite (fun _ => ?_) (fun _ => ?_)
  have no : ∀ r : Int, r ≠ 0 → (r = 0 → 1 ≤ w ∧ w ≤ 1024 ∧ 1 ≤ h ∧ h ≤ 1024 ∧ 0 ≤ x0 ∧ x0 ≤ x1 ∧ x1 < w ∧ 0 ≤ y0 ∧ y0 ≤ y1 ∧ y1 < h) := fun r h0 h1 => absurd h1 h0
  unfold r07_Within.f
  refine Tot.ite (fun _ => j0 true _ no (fun h => by cases h)) (fun _ => Tot.ite (fun _ => j0 true _ no (fun h => by cases h)) (fun _ => Tot.ite (fun _ => j0 true _ no (fun h => by cases h)) (fun _ => j0 _ _ no (fun hf a1 a2 a3 a4 a5 a6 _ => ?_))))
  simp at hf
  exact ⟨by omega, by omega, by omega, by omega, a1, a2, a3, a4, a5, a6⟩
end Go.Proofs.YthnndjlccepebaaGreatDoor.PHeavy
namespace Go.Proofs.YthnndjlccepebaaGreatDoor.PHeavy
open Go.RowKit Go.Proofs.YthnndjlccepebaaGreatDoorW.PrintWords Go.Proofs.YthnndjlccepebaaGreatDoorW.PrintLast
def SizeOk (w h : Int) (r : Int × Int × List Int × Int) : Prop := r.1 = w ∧ r.2.1 = h ∧ (r.2.2.1.length : Int) = w * h
theorem put_row {l : List Int} {w h x0 y0 x1 y1 : Int} (hw : 1 ≤ w) (hw2 : w ≤ 1024) (hh : 1 ≤ h) (hh2 : h ≤ 1024) (a0 : 0 ≤ x0) (a1 : x0 ≤ x1) (a2 : x1 < w) (b0 : 0 ≤ y0) (b2 : y1 < h)
    {c y s : Int} (hy : y0 ≤ y) (hy1 : y ≤ y1) (hs : 0 ≤ s) (hs2 : s + (x1 + 1 - x0) ≤ l.length) (hl : (l.length : Int) ≤ 1048576) {m2 : List Int}
    (next : ∀ v : List Int, (v.length : Int) = w * h → Tot (fun k => r09_Paste.l1 k l (s + (x1 + 1 - x0)) (wrap64 (y + 1)) w h m2 x0 y0 x1 y1 w h v) (SizeOk w h)) :
    ∀ (n : Nat) (x : Int) (v : List Int), x1 + 1 - x = n → x0 ≤ x → (v.length : Int) = w * h →
    Tot (fun k => r09_Paste.l2 k l (s + (x - x0)) y x w h m2 x0 y0 x1 y1 w h v) (SizeOk w h)
  | 0, x, v, hn, hx, hv => by
    refine Tot.succ ?_
    simp only [r09_Paste.l2]
    refine Tot.no (by omega) ?_
    have := next v hv
    rwa [show s + (x - x0) = s + (x1 + 1 - x0) from by omega]
  | n + 1, x, v, hn, hx, hv => by
    have e1 : 0 ≤ y * w := Int.mul_nonneg (by omega) (by omega)
    have e2 : (y + 1) * w ≤ h * w := Int.mul_le_mul_of_nonneg_right (by omega) (by omega)
    have e3 : (y + 1) * w = y * w + w := by rw [Int.add_mul]; omega
    have e4 : h * w = w * h := Int.mul_comm _ _
    have e5 : w * h ≤ 1048576 := by
      have := Int.mul_le_mul hw2 hh2 (by omega) (by omega : (0 : Int) ≤ 1024)
      omega
    refine Tot.succ ?_
    simp only [r09_Paste.l2]
    rw [w64 (x := y * w) (by omega) (by omega), w64 (x := y * w + x) (by omega) (by omega), w64 (x := s + (x - x0) + 1) (by omega) (by omega), w64 (x := x + 1) (by omega) (by omega)]
    refine Tot.yes (by omega) (Tot.yes (by omega) (Tot.yes (by omega) (Tot.yes (by omega) (Tot.yes (by omega) ?_))))
    rw [show s + (x - x0) + 1 = s + (x + 1 - x0) from by omega]
    exact put_row hw hw2 hh hh2 a0 a1 a2 b0 b2 (c := c) hy hy1 hs hs2 hl next n (x + 1) _ (by omega) (by omega) (by rw [List.length_set]; exact hv)
theorem put_rows {l : List Int} {w h x0 y0 x1 y1 : Int} (hw : 1 ≤ w) (hw2 : w ≤ 1024) (hh : 1 ≤ h) (hh2 : h ≤ 1024) (a0 : 0 ≤ x0) (a1 : x0 ≤ x1) (a2 : x1 < w) (b0 : 0 ≤ y0) (b1 : y0 ≤ y1) (b2 : y1 < h)
    (hl : (l.length : Int) = (x1 + 1 - x0) * (y1 + 1 - y0)) (hl2 : (l.length : Int) ≤ 1048576) {m2 : List Int} : ∀ (n : Nat) (i y : Int) (v : List Int), y1 + 1 - y = n → y0 ≤ y → i = (x1 + 1 - x0) * (y - y0) → (v.length : Int) = w * h →
    Tot (fun k => r09_Paste.l1 k l i y w h m2 x0 y0 x1 y1 w h v) (SizeOk w h)
  | 0, i, y, v, hn, hy, hi, hv => by
    refine Tot.succ ?_
    simp only [r09_Paste.l1]
    exact Tot.no (by omega) (Tot.done ⟨rfl, rfl, hv⟩)
  | n + 1, i, y, v, hn, hy, hi, hv => by
    refine Tot.succ ?_
    simp only [r09_Paste.l1]
    refine Tot.yes (by omega) ?_
    have e1 : 0 ≤ (x1 + 1 - x0) * (y - y0) := Int.mul_nonneg (by omega) (by omega)
    have e2 : (x1 + 1 - x0) * (y + 1 - y0) = (x1 + 1 - x0) * (y - y0) + (x1 + 1 - x0) := by
      rw [show y + 1 - y0 = (y - y0) + 1 from by omega, Int.mul_add]; omega
    have e3 : (x1 + 1 - x0) * (y + 1 - y0) ≤ (x1 + 1 - x0) * (y1 + 1 - y0) := Int.mul_le_mul_of_nonneg_left (by omega) (by omega)
    have := put_row (l := l) hw hw2 hh hh2 a0 a1 a2 b0 b2 (c := 0) (y := y) (s := i) (m2 := m2) hy (by omega) (by omega) (by omega) hl2 (fun u hu => by
      rw [w64 (x := y + 1) (by omega) (by omega)]
      exact put_rows hw hw2 hh hh2 a0 a1 a2 b0 b1 b2 hl hl2 n _ (y + 1) u (by omega) (by omega) (by omega) hu) (x1 + 1 - x0).toNat x0 v (by omega) (by omega) hv
    rwa [show i + (x0 - x0) = i from by omega] at this
theorem may_loop {l : List Int} {w h x0 y0 x1 y1 : Int} {m2 : List Int} (hl2 : (l.length : Int) ≤ 1048576) (hm : (m2.length : Int) = w * h) (hm2 : w * h ≤ 1048576)
    (next : Tot (fun k => r09_Paste.l1 k l 0 y0 w h m2 x0 y0 x1 y1 w h m2) (SizeOk w h)) : ∀ (n : Nat) (i : Int), (l.length : Int) - i = n → 0 ≤ i →
    Tot (fun k => r09_Paste.l0 k l i w h m2 x0 y0 x1 y1) (SizeOk w h)
  | 0, i, hn, hi => by
    refine Tot.succ ?_
    simp only [r09_Paste.l0, Option.bind_some, List.nil_append, List.length_nil, Nat.zero_add]
    exact Tot.no (by omega) (Tot.yes (by omega) next)
  | n + 1, i, hn, hi => by
    refine Tot.succ ?_
    simp only [r09_Paste.l0, Option.bind_some, List.nil_append, List.length_nil, Nat.zero_add]
    obtain ⟨b, hb⟩ := may_tot (rd l i)
    simp only [hb, Option.bind_some]
    rw [w64 (x := i + 1) (by omega) (by omega)]
    exact Tot.yes (by omega) (Tot.yes hi (Tot.ite (fun _ => may_loop hl2 hm hm2 next n (i + 1) (by omega) (by omega)) (fun _ => Tot.done ⟨rfl, rfl, hm⟩)))
theorem paste_tot {l m2 : List Int} {w h : Int} (hw : 1 ≤ w) (hw2 : w ≤ 1024) (hh : 1 ≤ h) (hh2 : h ≤ 1024) (hm : (m2.length : Int) = w * h) (x0 y0 x1 y1 : Int) : Tot (fun k => r09_Paste.f k w h m2 x0 y0 x1 y1 l) (SizeOk w h) := by
  have e5 : w * h ≤ 1048576 := by
    have := Int.mul_le_mul hw2 hh2 (by omega) (by omega : (0 : Int) ≤ 1024)
    omega
  unfold r09_Paste.f
  refine (within_tot x0 y0 x1 y1 w h).bind fun r hr => Tot.ite (fun h0 => ?_) (fun _ => Tot.done ⟨rfl, rfl, hm⟩)
  obtain ⟨_, _, _, _, a0, a1, a2, b0, b1, b2⟩ := hr h0
  obtain ⟨t, ht, ht2⟩ := right_tot x0 y0 x1 y1
  have ht3 := ht2 a0 a1 (by omega) b0 b1 (by omega)
  subst ht3
  have p0 : 0 ≤ (x1 + 1 - x0) * (y1 + 1 - y0) := Int.mul_nonneg (by omega) (by omega)
  have p1 : (x1 + 1 - x0) * (y1 + 1 - y0) ≤ 1048576 := by
    have := Int.mul_le_mul (by omega : x1 + 1 - x0 ≤ 1024) (by omega : y1 + 1 - y0 ≤ 1024) (by omega) (by omega : (0 : Int) ≤ 1024)
    omega
  unfold r07_Area.f
  simp only [ht, Option.bind_some, if_true]
  rw [w64 (x := x1 + 1) (by omega) (by omega), w64 (x := y1 + 1) (by omega) (by omega), w64 (x := x1 + 1 - x0) (by omega) (by omega), w64 (x := y1 + 1 - y0) (by omega) (by omega), w64 (x := (x1 + 1 - x0) * (y1 + 1 - y0)) (by omega) (by omega)]
  refine Tot.ite (fun hl => ?_) (fun _ => Tot.done ⟨rfl, rfl, hm⟩)
  refine may_loop (by omega) hm e5 ?_ l.length 0 (by omega) (by omega)
  exact put_rows hw hw2 hh hh2 a0 a1 a2 b0 b1 b2 hl (by omega) (y1 + 1 - y0).toNat 0 y0 m2 (by omega) (by omega) (by simp) hm
theorem good_rd {es : List S95} (h : ∀ e ∈ es, Good e) {i : Int} (h0 : 0 ≤ i) (h1 : i < es.length) : Good (rd_T95 es i) := by
  refine h _ ?_
  unfold rd_T95
  rw [List.getD_eq_getElem?_getD, List.getElem?_eq_getElem (by omega)]
  exact List.getElem_mem _
theorem load_loop {b : List Int} (hb : b.length ≤ 1000000000) {es : List S95} {ts : List S23} {w h a0 a1 : Int} (hw : 1 ≤ w) (hw2 : w ≤ 1024) (hh : 1 ≤ h) (hh2 : h ≤ 1024) (hg : ∀ e ∈ es, Good e) (hlen : es.length = ts.length) (ht : ts.length ≤ 4096) :
    ∀ (n : Nat) (ks : List Int) (en i : Int) (v : List Int), (ts.length : Int) - i = n → 0 ≤ i → (ks.length : Int) = i → (v.length : Int) = w * h →
    Tot (fun k => r14_Load.l0 k b es ts ks en i a0 a1 w h v) Any
  | 0, ks, en, i, v, hn, hi, hk, hv => by
    refine Tot.succ ?_
    simp only [r14_Load.l0]
    exact Tot.no (by omega) (Tot.ite (fun _ => Tot.done trivial) (fun _ => Tot.done trivial))
  | n + 1, ks, en, i, v, hn, hi, hk, hv => by
    refine Tot.succ ?_
    simp only [r14_Load.l0]
    obtain ⟨g1, g2, g3, g4⟩ := good_rd hg hi (by omega)
    rw [w64 (x := (rd_T95 es i).f0 + (rd_T95 es i).f1) (by omega) (by omega), w64 (x := i + 1) (by omega) (by omega)]
    refine Tot.yes (by omega) (Tot.yes hi (Tot.yes (by omega) (Tot.ite (fun _ => Tot.done trivial) (fun hle => ?_))))
    simp only [r14_size.f, Option.bind_some]
    refine Tot.yes g1 (Tot.yes (by omega) (Tot.yes (by omega) ?_))
    refine (tile_tot (by rw [List.length_drop, List.length_take]; omega) _ _).bind fun r _ => Tot.ite (fun _ => ?_) (fun _ => Tot.done trivial)
    refine (paste_tot hw hw2 hh hh2 hv _ _ _ _).bind fun s hs => Tot.yes (by omega) ?_
    obtain ⟨s1, s2, s3⟩ := hs
    rw [s1, s2]
    exact load_loop hb hw hw2 hh hh2 hg hlen ht n _ _ (i + 1) _ (by omega) (by omega) (by rw [List.length_append]; simp only [List.length_cons, List.length_nil]; omega) s3
theorem load_tot (l : List Int) (hl : l.length ≤ 1000000000) : ∃ k r, r14_Load.f k l = some r := by
  have key : Tot (fun k => r14_Load.f k l) Any := by
    unfold r14_Load.f
    refine (open_tot l hl).bind fun o ho => Tot.ite (fun _ => ?_) (fun _ => Tot.done trivial)
    refine (head_tot o.1 (by omega)).bind fun d hd => Tot.ite (fun h0 => ?_) (fun _ => Tot.done trivial)
    obtain ⟨w1, w2, h1, h2, hg, ts, e1, e2, hp⟩ := hd h0
    refine (new_tot w1 w2 h1 h2).bind fun m hm => ?_
    obtain ⟨m1, m2, m3⟩ := hm
    unfold r09_Tiles.f r09_All.f
    simp only [Option.bind_some]
    rw [m1, m2]
    refine Tot.bind (P := fun s => s = ts) ?_ fun s hs => ?_
    · exact hp.bind fun s hs => Tot.done hs
    · subst hs
      exact load_loop (by omega) w1 w2 h1 h2 hg e1 e2 s.length [] _ 0 _ (by omega) (by omega) (by simp) m3
  obtain ⟨N, r, h, _⟩ := key
  exact ⟨N, r, h N (Nat.le_refl _)⟩
end Go.Proofs.YthnndjlccepebaaGreatDoor.PHeavy
