/- StoreNil returns true on any op. -/
import Derived.Test.YthnndjlccepebaaGreatDoorV1
import Derived.Test.YthnndjlccepebaaGreatDoorH1
import Derived.Deep.CutBlock
import Derived.Deep.DeepCutAuto
set_option linter.unusedVariables false
set_option linter.unusedSimpArgs false
namespace Go.Proofs.YthnndjlccepebaaGreatDoor
open Go Go.Am Go.RowKit
set_option maxRecDepth 100000
def cFst : Code → Code | .seq a _ => a | c => c
def cSnd : Code → Code | .seq _ b => b | c => c
noncomputable def body3 : Code := match Tryz.f3.body with | some c => c | none => .skip
noncomputable def reg5 : Code := cFst (cSnd (cSnd (cSnd body3)))
noncomputable def rest6 : Code := cSnd (cSnd (cSnd (cSnd body3)))
noncomputable def reg6 : Code := cFst rest6
noncomputable def reg78 : Code := cFst (cSnd rest6)
noncomputable def rest9 : Code := cSnd (cSnd rest6)
noncomputable abbrev call0 : CallE := evalM Tryz.prog 100000 [] 50
theorem call0_ok : CallOk Tryz.prog call0 := evalM_sound named mixed 100000 (tbl := []) trivial 50
def opL (k a b c d e f g h n m : Int) (x y z : Value) : List Value := [.int .i64 k, .int .i64 a, .int .i64 b, .int .i64 c, .int .i64 d, .int .i64 e, .int .i64 f, .int .i64 g, .int .i64 h, .int .i64 n, .int .i64 m, x, y, z]
def slots (o p r : Value) : List Value := [o, p, .bool false, undef, undef, undef, undef, undef, undef, .bool true, .bool false, o, r, .bool false] ++ List.replicate 45 undef
noncomputable def sA (l : List Value) : St := ⟨initR (slots (.agg ⟨l⟩) (.pointer (some ⟨4, 0, none⟩)) (.slice (some ⟨5, 0, none⟩) 1 1)) 0 ⟨.nil, 59⟩, [], newsR [none, none, none, none, some (.cells l 30 true false 0), none] ⟨.nil, 0, []⟩⟩
noncomputable def isTrue : Option (AEx × St) → Bool
  | some (.ret, s) => match s.dfr with | [] => (match s.tmps.get 2 with | .bool b => b | _ => false) | _ => false
  | _ => false
noncomputable def thenR (c : Code) : Option (AEx × St) → Option (AEx × St)
  | some (.normal, s) => runR c Tryz.prog call0 100000 s
  | x => x
def bareS (s : St) : St := ⟨s.tmps, [], ⟨.nil, s.H.n, []⟩⟩
noncomputable def thenB (c : Code) : Option (AEx × St) → Option (AEx × St)
  | some (.normal, s) => match s.dfr with | [] => runR c Tryz.prog call0 100000 (bareS s) | _ => none
  | _ => none
theorem partA (k a b c d e f g h n m : Int) (x y z : Value) : isTrue (thenB rest9 (thenR reg78 (thenR reg6 (runR reg5 Tryz.prog call0 100000 (sA (opL k a b c d e f g h n m x y z)))))) = true := by kernel_rfl
theorem info30 : (Tryz.prog.info? 30).map (·.size) = some 14 := by kernel_rfl
theorem globals1 : Tryz.prog.globals.size = 1 := by kernel_rfl
def told (i : Nat) (A : Option Addr) (n c : Nat) : Value := .slice (A.map fun a => { a with block := i }) n c
def blkOf (A : Option Addr) : Nat := match A with | some a => a.block | none => 0
def phi (A1 A2 A3 : Option Addr) (B C : Nat) : Inj
  | 0 => some ⟨0, 0, 0⟩
  | 1 => some ⟨blkOf A1, 0, 0⟩
  | 2 => some ⟨blkOf A2, 0, 0⟩
  | 3 => some ⟨blkOf A3, 0, 0⟩
  | 4 => some ⟨B, 14, 14⟩
  | 5 => some ⟨C, 0, 0⟩
  | _ => none
theorem VR.told {φ : Inj} {i : Nat} {A : Option Addr} {n c x y : Nat} (h : φ i = some ⟨blkOf A, x, y⟩) (hc : c ≠ UNK) : VR φ (told i A n c) (.slice A n c) := by
  cases A with
  | none => exact .sliceNil n c
  | some a => exact .slice _ _ n c ⟨_, h, rfl⟩ hc
theorem heapA (l : List Value) : (sA l).H = ((((((AHeap.mk .nil 0 []).push none).push none).push none).push none).push (some (.cells l 30 true false 0))).push none := by
  show pushH (pushH (pushH (pushH (pushH (pushH (AHeap.mk .nil 0 []) none) none) none) none) (some (.cells l 30 true false 0))) none = _
  simp only [pushH_eq]
theorem objA {l : List Value} {i : Nat} {o : AObj} (h : (sA l).H.get i = some (some o)) : i = 4 ∧ o = .cells l 30 true false 0 := by
  rw [heapA] at h
  rw [AHeap.get_push] at h
  split at h
  · cases h
  rw [AHeap.get_push] at h
  split at h
  · rename_i e
    have e : i = 4 := e
    exact ⟨e, by simpa using h.symm⟩
  rw [AHeap.get_push] at h
  split at h
  · cases h
  rw [AHeap.get_push] at h
  split at h
  · cases h
  rw [AHeap.get_push] at h
  split at h
  · cases h
  rw [AHeap.get_push] at h
  split at h
  · cases h
  rw [AHeap.get_none (Nat.zero_le _)] at h
  cases h
theorem isTrue_some {o : Option (AEx × St)} (h : isTrue o = true) : ∃ s, o = some (.ret, s) ∧ s.dfr = [] ∧ s.tmps.get 2 = .bool true := by
  unfold isTrue at h
  split at h
  · split at h
    · split at h
      · rename_i hb
        subst h
        exact ⟨_, rfl, by assumption, hb⟩
      · cases h
    · cases h
  · cases h
theorem thenR_some {c : Code} {o : Option (AEx × St)} {s : St} (h : thenR c o = some (.normal, s)) : ∃ s1, o = some (.normal, s1) ∧ runR c Tryz.prog call0 100000 s1 = some (.normal, s) := by
  unfold thenR at h
  split at h
  · exact ⟨_, rfl, h⟩
  · rename_i hno
    exact absurd h (hno s)
theorem thenB_some {c : Code} {o : Option (AEx × St)} {s : St} (h : thenB c o = some (.ret, s)) : ∃ s1, o = some (.normal, s1) ∧ s1.dfr = [] ∧ runR c Tryz.prog call0 100000 (bareS s1) = some (.ret, s) := by
  unfold thenB at h
  split at h
  · split at h
    · exact ⟨_, rfl, by assumption, h⟩
    · cases h
  · cases h
theorem rest_eq : rest6 = .seq reg6 (.seq reg78 rest9) := by kernel_rfl
theorem op_vr (A1 A2 A3 : Option Addr) (n1 n2 n3 c1 c2 c3 B C : Nat) (h1 : c1 ≠ UNK) (h2 : c2 ≠ UNK) (h3 : c3 ≠ UNK) (k a b c d e f g h n m : Int) :
    VRs (phi A1 A2 A3 B C) (opL k a b c d e f g h n m (told 1 A1 n1 c1) (told 2 A2 n2 c2) (told 3 A3 n3 c3)) [.int .i64 k, .int .i64 a, .int .i64 b, .int .i64 c, .int .i64 d, .int .i64 e, .int .i64 f, .int .i64 g, .int .i64 h, .int .i64 n, .int .i64 m, .slice A1 n1 c1, .slice A2 n2 c2, .slice A3 n3 c3] :=
  .cons _ _ _ _ (.int _ _) (.cons _ _ _ _ (.int _ _) (.cons _ _ _ _ (.int _ _) (.cons _ _ _ _ (.int _ _) (.cons _ _ _ _ (.int _ _) (.cons _ _ _ _ (.int _ _) (.cons _ _ _ _ (.int _ _) (.cons _ _ _ _ (.int _ _) (.cons _ _ _ _ (.int _ _) (.cons _ _ _ _ (.int _ _) (.cons _ _ _ _ (.int _ _)
      (.cons _ _ _ _ (VR.told (x := 0) (y := 0) rfl h1) (.cons _ _ _ _ (VR.told (x := 0) (y := 0) rfl h2) (.cons _ _ _ _ (VR.told (x := 0) (y := 0) rfl h3) .nil)))))))))))))
theorem emb_A (A1 A2 A3 : Option Addr) (n1 n2 n3 c1 c2 c3 B C : Nat) (h1 : c1 ≠ UNK) (h2 : c2 ≠ UNK) (h3 : c3 ≠ UNK) (k a b c d e f g h n m : Int) (w : World)
    (hB : w.heap[B]? = some (.cells #[.int .i64 k, .int .i64 a, .int .i64 b, .int .i64 c, .int .i64 d, .int .i64 e, .int .i64 f, .int .i64 g, .int .i64 h, .int .i64 n, .int .i64 m, .slice A1 n1 c1, .slice A2 n2 c2, .slice A3 n3 c3] 30 (0, 0))) :
    Emb Tryz.prog (phi A1 A2 A3 B C) (sA (opL k a b c d e f g h n m (told 1 A1 n1 c1) (told 2 A2 n2 c2) (told 3 A3 n3 c3))).H w where
  obj := fun i o ho => by
    obtain ⟨rfl, rfl⟩ := objA ho
    refine ⟨⟨B, 14, 14⟩, _, rfl, hB, rfl, fun j _ hj => by simp at hj, rfl, info30, Nat.le_refl _, ?_, fun _ => rfl⟩
    exact op_vr A1 A2 A3 n1 n2 n3 c1 c2 c3 B C h1 h2 h3 k a b c d e f g h n m
  inj := fun i j oi oj ei ej hi hj _ _ _ => by rw [(objA hi).1, (objA hj).1]
  fresh := fun i hi => by
    have : (sA (opL k a b c d e f g h n m (told 1 A1 n1 c1) (told 2 A2 n2 c2) (told 3 A3 n3 c3))).H.n = 6 := rfl
    rw [this] at hi
    match i, hi with
    | i + 6, _ => rfl
  glob := fun g hg => by
    rw [globals1] at hg
    obtain rfl : g = 0 := by omega
    exact ⟨_, rfl, rfl⟩
theorem slots_vr {φ : Inj} {o p r o' p' r' : Value} (ho : VR φ o o') (hp : VR φ p p') (hr : VR φ r r') : VRs φ (slots o p r) (slots o' p' r') := by
  have hu : ∀ n, VRs φ (List.replicate n undef) (List.replicate n undef) := fun n => by
    induction n with
    | zero => exact .nil
    | succ n ih => exact .cons _ _ _ _ (.undef _) ih
  exact .cons _ _ _ _ ho (.cons _ _ _ _ hp (.cons _ _ _ _ (.bool _) (.cons _ _ _ _ (.undef _) (.cons _ _ _ _ (.undef _) (.cons _ _ _ _ (.undef _) (.cons _ _ _ _ (.undef _) (.cons _ _ _ _ (.undef _) (.cons _ _ _ _ (.undef _) (.cons _ _ _ _ (.bool _) (.cons _ _ _ _ (.bool _) (.cons _ _ _ _ ho (.cons _ _ _ _ hr (.cons _ _ _ _ (.bool _) (hu 45))))))))))))))
theorem rest_ok (A1 A2 A3 : Option Addr) (n1 n2 n3 c1 c2 c3 B C : Nat) (h1 : c1 ≠ UNK) (h2 : c2 ≠ UNK) (h3 : c3 ≠ UNK) (k a b c d e f g h n m : Int) (x : Act) (w : World)
    (hx : x.tmps = ⟨slots (.agg #[.int .i64 k, .int .i64 a, .int .i64 b, .int .i64 c, .int .i64 d, .int .i64 e, .int .i64 f, .int .i64 g, .int .i64 h, .int .i64 n, .int .i64 m, .slice A1 n1 c1, .slice A2 n2 c2, .slice A3 n3 c3]) (.pointer (some ⟨B, 0, none⟩)) (.slice (some ⟨C, 0, none⟩) 1 1)⟩) (hd : x.defers = [])
    (hB : w.heap[B]? = some (.cells #[.int .i64 k, .int .i64 a, .int .i64 b, .int .i64 c, .int .i64 d, .int .i64 e, .int .i64 f, .int .i64 g, .int .i64 h, .int .i64 n, .int .i64 m, .slice A1 n1 c1, .slice A2 n2 c2, .slice A3 n3 c3] 30 (0, 0)))
    (R Q : Exit → Act → World → Prop) (hR : ∀ a' w', rest6.wp Tryz.prog Q a' w' → R .normal a' w') (hQ : ∀ a' w', a'.tmps.getD 2 undef = .bool true → a'.defers = [] → Below B w w' → Q .ret a' w') : reg5.wp Tryz.prog R x w := by
  have em := emb_A A1 A2 A3 n1 n2 n3 c1 c2 c3 B C h1 h2 h3 k a b c d e f g h n m w hB
  have hA := partA k a b c d e f g h n m (told 1 A1 n1 c1) (told 2 A2 n2 c2) (told 3 A3 n3 c3)
  have hop : VRs (phi A1 A2 A3 B C) (opL k a b c d e f g h n m (told 1 A1 n1 c1) (told 2 A2 n2 c2) (told 3 A3 n3 c3)) [.int .i64 k, .int .i64 a, .int .i64 b, .int .i64 c, .int .i64 d, .int .i64 e, .int .i64 f, .int .i64 g, .int .i64 h, .int .i64 n, .int .i64 m, .slice A1 n1 c1, .slice A2 n2 c2, .slice A3 n3 c3] := op_vr A1 A2 A3 n1 n2 n3 c1 c2 c3 B C h1 h2 h3 k a b c d e f g h n m
  generalize hl : opL k a b c d e f g h n m (told 1 A1 n1 c1) (told 2 A2 n2 c2) (told 3 A3 n3 c3) = l at em hA hop
  obtain ⟨s3, hs3, hd3, ht3⟩ := isTrue_some hA
  obtain ⟨s2, hs2, hd2, hs3⟩ := thenB_some hs3
  obtain ⟨s1, hs1, hs2⟩ := thenR_some hs2
  obtain ⟨s0, hs0, hs1⟩ := thenR_some hs1
  have r0 : SR Tryz.prog (phi A1 A2 A3 B C) (sA l) x w := by
    have hv := slots_vr (φ := phi A1 A2 A3 B C) (.agg _ _ hop) (.ptr ⟨4, 0, none⟩ ⟨B, 0, none⟩ ⟨⟨B, 14, 14⟩, rfl, rfl⟩) (.slice ⟨5, 0, none⟩ ⟨C, 0, none⟩ 1 1 ⟨⟨C, 0, 0⟩, rfl, rfl⟩ (by decide))
    refine ⟨⟨?_, fun i => ?_⟩, by rw [hd]; exact .nil, em⟩
    · rw [hx]
      show _ = (initR _ 0 _).n
      rw [initR_eq, initT_n]; rfl
    · show VR _ ((initR _ 0 _).get i) _
      rw [initR_eq, initT_get, hx]
      simp only [Nat.zero_le, true_and, Nat.zero_add, Nat.sub_zero]
      rw [Array.getD_eq_getD_getElem?, List.getElem?_toArray]
      by_cases hi : i < 59
      · rw [if_pos ⟨hi, hi⟩]
        obtain ⟨v, hv1⟩ : ∃ v, (slots (.agg ⟨l⟩) (.pointer (some ⟨4, 0, none⟩)) (.slice (some ⟨5, 0, none⟩) 1 1))[i]? = some v := ⟨_, List.getElem?_eq_getElem hi⟩
        obtain ⟨v', g1, g2⟩ := hv.get hv1
        rw [g1, List.getD_eq_getElem?_getD, hv1]
        exact g2
      · rw [if_neg (fun hh => hi hh.2), List.getElem?_eq_none (by show 59 ≤ i; omega)]
        have e : (⟨.nil, 59⟩ : Tm).get i = undef := by unfold Tm.get; split <;> rfl
        rw [e]; exact .undef _
  refine runR_sound named mixed call0_ok 100000 reg5 _ _ _ hs0 _ _ _ _ r0 fun φ₀ x₀ w₀ r₀ st₀ => hR x₀ w₀ ?_
  rw [rest_eq]
  refine wp_seq (runR_sound named mixed call0_ok 100000 reg6 _ _ _ hs1 _ _ _ _ r₀ fun φ₁ x₁ w₁ r₁ st₁ => ?_)
  show (Code.seq reg78 rest9).wp Tryz.prog Q x₁ w₁
  refine wp_seq (runR_sound named mixed call0_ok 100000 reg78 _ _ _ hs2 _ _ _ _ r₁ fun φ₂ x₂ w₂ r₂ st₂ => ?_)
  show rest9.wp Tryz.prog Q x₂ w₂
  have st := Step.trans em r₁.em (Step.trans em r₀.em st₀ st₁) st₂
  have hlt : B < w.heap.size := (Array.getElem?_eq_some_iff.1 hB).1
  have hB2 : Below B w w₂ := ⟨st.os, st.tape, st.output, st.size, fun b hb => by
    exact st.out b (by omega) fun i o e hi _ he => by
      obtain ⟨rfl, _⟩ := objA hi
      have : e = ⟨B, 14, 14⟩ := (Option.some.inj he).symm
      subst this
      exact fun hh => by have : B = b := hh; omega⟩
  have bare : ∀ i o, (bareS s2).H.get i ≠ some (some o) := fun i o h => by
    unfold bareS AHeap.get at h
    simp only [Tr.get] at h
    split at h <;> cases h
  have rB : SR Tryz.prog φ₂ (bareS s2) x₂ w₂ := by
    refine ⟨r₂.tmps, ?_, ⟨fun i o h => absurd h (bare i o), fun i j oi oj ei ej h => absurd h (bare i oi), fun i hi => r₂.em.fresh i hi, r₂.em.glob⟩⟩
    have h0 := r₂.dfr
    rw [hd2] at h0
    exact h0
  refine runR_sound named mixed call0_ok 100000 rest9 _ _ _ hs3 _ _ _ _ rB fun φ₃ x₃ w₃ r₃ st₃ => ?_
  refine hQ x₃ w₃ ?_ ?_ (hB2.trans ⟨st₃.os, st₃.tape, st₃.output, st₃.size, fun b hb => st₃.out b (by have := hB2.size; omega) fun i o e h => absurd h (bare i o)⟩)
  · have h0 := r₃.tmps.get 2
    rw [ht3] at h0
    generalize x₃.tmps.getD 2 undef = v at h0 ⊢
    cases h0
    rfl
  · have h0 := r₃.dfr
    rw [hd3] at h0
    generalize x₃.defers = ds at h0 ⊢
    cases h0
    rfl
end Go.Proofs.YthnndjlccepebaaGreatDoor
namespace Go.Proofs.YthnndjlccepebaaGreatDoor
open Go.RowKit Go.Proofs.YthnndjlccepebaaGreatDoorW.PrintWords PHeavy
theorem awake_below (w : World) : Calls Tryz.prog 4 #[] w fun e w' => e = .returned (.bool true) ∧ Below w.heap.size w w' :=
  (awake_calls w).mono fun e w' ⟨h, s⟩ => ⟨h, s.os, s.tape, s.output, s.size, s.heap⟩
def Yes (w : World) (e : Ending) (w' : World) : Prop := e = .returned (.bool true) ∧ Below w.heap.size w w'
theorem alloc_new (w : World) (o : Obj) : (w.alloc o).heap[w.heap.size]? = some o := by
  show (w.heap.push o)[w.heap.size]? = some o
  simp
theorem res3 (t : Array Value) (h : t.getD 2 undef = .bool true) (w : World) : (results Tryz.f3 t).run Tryz.prog w = .ok (.bool true) w := by
  obtain ⟨t⟩ := t
  rw [Am.results_eq, Tryz.results3, Array.mapM_eq_mapM_toList]
  simp only [List.mapM_cons, List.mapM_nil, Am.resF, h, Sem.run_bind, Sem.run_pure, Sem.run_map, Result.andThen_ok, pure_bind, bind_pure_comp]
  rfl
set_option maxHeartbeats 2000000 in
set_option maxRecDepth 100000 in
theorem storeNil_calls (kd x0 y0 x1 y1 ax ay bx by_ n m : Int) (A1 A2 A3 : Option Addr) (n1 n3 c1 c2 c3 : Nat) (l : List Int) (W : World) (hr : Kd.C (Kd.int .u8) W A2 l.length l) (hc2 : l.length ≤ c2) (hc1' : c1 ≠ Am.UNK) (hc2' : c2 ≠ Am.UNK) (hc3' : c3 ≠ Am.UNK) :
    Calls Tryz.prog 3 #[.agg #[.int .i64 kd, .int .i64 x0, .int .i64 y0, .int .i64 x1, .int .i64 y1, .int .i64 ax, .int .i64 ay, .int .i64 bx, .int .i64 by_, .int .i64 n, .int .i64 m, .slice A1 n1 c1, .slice A2 l.length c2, .slice A3 n3 c3]] W (Yes W) := by
  have HR := Ad.mk hr
  clear hr
  go_enter Tryz.func3, Tryz.ntmps3
  go_wp2_with fail
  refine (awake_below _).mono ?_
  rintro e w1 ⟨rfl, hb⟩
  have cell : ∀ i v, (W.alloc (.cells #[.int .i64 kd, .int .i64 x0, .int .i64 y0, .int .i64 x1, .int .i64 y1, .int .i64 ax, .int .i64 ay, .int .i64 bx, .int .i64 by_, .int .i64 n, .int .i64 m, .slice A1 n1 c1, .slice A2 l.length c2, .slice A3 n3 c3] 30)).cell? ⟨W.heap.size, i, none⟩ = some v → w1.cell? ⟨W.heap.size, i, none⟩ = some v := fun i v h => (hb.cell (p := ⟨W.heap.size, i, none⟩) (by simp)).trans h
  have g0 := cell 0 (.int .i64 kd) (by simp)
  have g1 := cell 1 (.int .i64 x0) (by simp)
  have g2 := cell 2 (.int .i64 y0) (by simp)
  have g3 := cell 3 (.int .i64 x1) (by simp)
  have g4 := cell 4 (.int .i64 y1) (by simp)
  have g5 := cell 5 (.int .i64 ax) (by simp)
  have g6 := cell 6 (.int .i64 ay) (by simp)
  have g7 := cell 7 (.int .i64 bx) (by simp)
  have g8 := cell 8 (.int .i64 by_) (by simp)
  have g9 := cell 9 (.int .i64 n) (by simp)
  have g10 := cell 10 (.int .i64 m) (by simp)
  have g11 := cell 11 (.slice A1 n1 c1) (by simp)
  have g12 := cell 12 (.slice A2 l.length c2) (by simp)
  have g13 := cell 13 (.slice A3 n3 c3) (by simp)
  clear cell
  go_wp2_with fail
  refine (heavy_calls _ 1 (Nat.le_refl _) kd x0 y0 x1 y1 ax ay bx by_ n m A1 A2 A3 n1 n3 c1 c2 c3 l _ (Kd.C_alloc (Kd.C_below (Kd.C_alloc HR.out _) hb) _) hc2 (by simp) (by simp) (by simp) (by simp) (by simp) (by simp) (by simp) (by simp) (by simp) (by simp) (by simp) (by simp) (by simp) (by simp)).mono ?_
  rintro e w2 ⟨⟨b, rfl⟩, hb2⟩
  cases b with
  | true =>
    go_wp2_with fail
    go_ret
    exact ⟨rfl, below_step (bwA (Below.refl _ _) _) (below_step (bwA hb _) hb2)⟩
  | false =>
    go_upto_region 5 with (fail)
    rename_i K hK
    refine rest_ok A1 A2 A3 n1 l.length n3 c1 c2 c3 W.heap.size w1.heap.size hc1' hc2' hc3' kd x0 y0 x1 y1 ax ay bx by_ n m _ w2 rfl rfl ?_ _ _ (fun a' w' h => hK a' w' h) ?_
    · have b1 : Below w1.heap.size w1 w2 := below_step (bwA (Below.refl _ _) _) hb2
      have hlt : W.heap.size < w1.heap.size := Nat.lt_of_lt_of_le (by simp) hb.size
      rw [b1.block _ hlt, hb.block _ (by simp)]
      exact alloc_new W _
    · intro a' w' h1 h2 h3
      exact bodyPost_ret (v := .bool true) (res3 _ h1 _) h2 ⟨rfl, (below_step (bwA (Below.refl _ _) _) (below_step (bwA hb _) hb2)).trans h3⟩
end Go.Proofs.YthnndjlccepebaaGreatDoor
