/- An evaluator for closed runs: values, memory, operations, each proved sound. -/
import Derived.Calls
import Derived.Orders
import Derived.OrdersHeld
import Derived.Below
import Derived.LoopN
import Derived.Laws.Sem
import Derived.Laws.Cells
import Derived.Laws.CopyRow
import Derived.Laws.Entries
set_option linter.unusedVariables false
set_option linter.unusedSimpArgs false
namespace Go.Am
open Go
structure Ent where
  blk : Nat
  total : Nat
  esz : Nat
abbrev Inj := Nat → Option Ent
def Inj.le (φ φ' : Inj) : Prop := ∀ i e, φ i = some e → φ' i = some e
theorem Inj.le_refl (φ : Inj) : φ.le φ := fun _ _ h => h
theorem Inj.le_trans {a b c : Inj} (h : a.le b) (k : b.le c) : a.le c := fun i e x => k i e (h i e x)
def UNK : Nat := 2 ^ 63
def AddrR (φ : Inj) (a a' : Addr) : Prop := ∃ e, φ a.block = some e ∧ a' = { a with block := e.blk }
mutual
inductive VR (φ : Inj) : Value → Value → Prop
  | bool (b : Bool) : VR φ (.bool b) (.bool b)
  | int (k : IntKind) (n : Int) : VR φ (.int k n) (.int k n)
  | string (s : ByteArray) : VR φ (.string s) (.string s)
  | ptrNil : VR φ (.pointer none) (.pointer none)
  | ptr (a a' : Addr) (h : AddrR φ a a') : VR φ (.pointer (some a)) (.pointer (some a'))
  | sliceNil (l c : Nat) : VR φ (.slice none l c) (.slice none l c)
  | slice (a a' : Addr) (l c : Nat) (h : AddrR φ a a') (hc : c ≠ UNK) : VR φ (.slice (some a) l c) (.slice (some a') l c)
  | sliceUnk (a : Addr) (e : Ent) (l c : Nat) (h : φ a.block = some e) (hl : l ≤ c) (ht : a.off + c * e.esz = e.total) :
      VR φ (.slice (some a) l UNK) (.slice (some { a with block := e.blk }) l c)
  | func (f : FuncId) (b b' c c' : List Value) (hb : VRs φ b b') (hc : VRs φ c c') : VR φ (.func (.func f) ⟨b⟩ ⟨c⟩) (.func (.func f) ⟨b'⟩ ⟨c'⟩)
  | nilFunc : VR φ .nilFunc .nilFunc
  | iface (t : TypeId) (v v' : Value) (h : VR φ v v') : VR φ (.iface t v) (.iface t v')
  | nilIface : VR φ .nilIface .nilIface
  | agg (c c' : List Value) (h : VRs φ c c') : VR φ (.agg ⟨c⟩) (.agg ⟨c'⟩)
  | tuple (c c' : List Value) (h : VRs φ c c') : VR φ (.tuple ⟨c⟩) (.tuple ⟨c'⟩)
inductive VRs (φ : Inj) : List Value → List Value → Prop
  | nil : VRs φ [] []
  | cons (v v' : Value) (l l' : List Value) (h : VR φ v v') (hl : VRs φ l l') : VRs φ (v :: l) (v' :: l')
end
theorem VR.mono {φ φ' : Inj} (hle : φ.le φ') {v v' : Value} (h : VR φ v v') : VR φ' v v' :=
  VR.rec (motive_1 := fun v v' _ => VR φ' v v') (motive_2 := fun l l' _ => VRs φ' l l')
    (fun b => .bool b) (fun k n => .int k n) (fun s => .string s) .ptrNil
    (fun a a' h => .ptr a a' (let ⟨e, h1, h2⟩ := h; ⟨e, hle _ _ h1, h2⟩))
    (fun l c => .sliceNil l c)
    (fun a a' l c h hc => .slice a a' l c (let ⟨e, h1, h2⟩ := h; ⟨e, hle _ _ h1, h2⟩) hc)
    (fun a e l c h hl ht => .sliceUnk a e l c (hle _ _ h) hl ht)
    (fun f b b' c c' _ _ ib ic => .func f b b' c c' ib ic)
    .nilFunc (fun t v v' _ ih => .iface t v v' ih) .nilIface
    (fun c c' _ ih => .agg c c' ih) (fun c c' _ ih => .tuple c c' ih)
    .nil (fun v v' l l' _ _ ih il => .cons v v' l l' ih il) h
theorem VRs.mono {φ φ' : Inj} (hle : φ.le φ') : ∀ {l l' : List Value}, VRs φ l l' → VRs φ' l l'
  | _, _, .nil => .nil
  | _, _, .cons _ _ _ _ h hl => .cons _ _ _ _ (h.mono hle) (hl.mono hle)
theorem VRs.length {φ : Inj} : ∀ {l l' : List Value}, VRs φ l l' → l.length = l'.length
  | _, _, .nil => rfl
  | _, _, .cons _ _ _ _ _ hl => by simp [hl.length]
theorem VRs.get {φ : Inj} : ∀ {l l' : List Value}, VRs φ l l' → ∀ {i : Nat} {v : Value}, l[i]? = some v → ∃ v', l'[i]? = some v' ∧ VR φ v v'
  | _, _, .nil, i, v, h => by simp at h
  | _, _, .cons v v' l l' h hl, 0, x, hx => by
    simp at hx; subst hx; exact ⟨v', by simp, h⟩
  | _, _, .cons v v' l l' h hl, i + 1, x, hx => by
    simp at hx; obtain ⟨y, hy, hr⟩ := hl.get hx; exact ⟨y, by simpa using hy, hr⟩
theorem VRs.append {φ : Inj} : ∀ {a a' b b' : List Value}, VRs φ a a' → VRs φ b b' → VRs φ (a ++ b) (a' ++ b')
  | _, _, _, _, .nil, h => h
  | _, _, _, _, .cons _ _ _ _ h hl, k => .cons _ _ _ _ h (hl.append k)
theorem VRs.take {φ : Inj} : ∀ (n : Nat) {l l' : List Value}, VRs φ l l' → VRs φ (l.take n) (l'.take n)
  | 0, _, _, _ => by simpa using .nil
  | _ + 1, _, _, .nil => by simpa using .nil
  | n + 1, _, _, .cons _ _ _ _ h hl => by simpa using .cons _ _ _ _ h (hl.take n)
theorem VRs.drop {φ : Inj} : ∀ (n : Nat) {l l' : List Value}, VRs φ l l' → VRs φ (l.drop n) (l'.drop n)
  | 0, _, _, h => by simpa using h
  | _ + 1, _, _, .nil => by simpa using .nil
  | n + 1, _, _, .cons _ _ _ _ _ hl => by simpa using hl.drop n
theorem VRs.set {φ : Inj} : ∀ {l l' : List Value} (i : Nat) {v v' : Value}, VRs φ l l' → VR φ v v' → VRs φ (l.set i v) (l'.set i v')
  | _, _, _, _, _, .nil, _ => by simpa using .nil
  | _, _, 0, _, _, .cons _ _ _ _ _ hl, k => by simpa using .cons _ _ _ _ k hl
  | _, _, i + 1, _, _, .cons _ _ _ _ h hl, k => by simpa using .cons _ _ _ _ h (hl.set i k)
theorem VRs.map_get {φ : Inj} {α : Type} (f f' : α → Value) : ∀ (l : List α), (∀ x ∈ l, VR φ (f x) (f' x)) → VRs φ (l.map f) (l.map f')
  | [], _ => .nil
  | x :: l, h => .cons _ _ _ _ (h x (by simp)) (VRs.map_get f f' l fun y hy => h y (by simp [hy]))
def plain : Nat → Value → Bool
  | _, .bool _ | _, .int _ _ | _, .string _ | _, .pointer none | _, .slice none _ _ | _, .nilFunc | _, .nilIface => true
  | d + 1, .agg c => c.toList.all (plain d)
  | d + 1, .tuple c => c.toList.all (plain d)
  | d + 1, .iface _ v => plain d v
  | _, .func (.func _) b c => b.toList.isEmpty && c.toList.isEmpty
  | _, _ => false
theorem VRs.plain_of {φ : Inj} {d : Nat} (ih : ∀ v, plain d v = true → VR φ v v) : ∀ (l : List Value), l.all (plain d) = true → VRs φ l l
  | [], _ => .nil
  | v :: l, h => by
    simp at h
    exact .cons _ _ _ _ (ih v h.1) (VRs.plain_of ih l (by simpa using h.2))
theorem VR.of_plain {φ : Inj} : ∀ (d : Nat) (v : Value), plain d v = true → VR φ v v
  | d, v, h => by
    cases v with
    | bool b => exact .bool b
    | int k n => exact .int k n
    | string s => exact .string s
    | nilFunc => exact .nilFunc
    | nilIface => exact .nilIface
    | pointer a => cases a with
      | none => exact .ptrNil
      | some a => cases d <;> simp [plain] at h
    | slice a l c => cases a with
      | none => exact .sliceNil l c
      | some a => cases d <;> simp [plain] at h
    | agg c => cases d with
      | zero => simp [plain] at h
      | succ d => obtain ⟨c⟩ := c; exact .agg c c (VRs.plain_of (fun v hv => VR.of_plain d v hv) c (by simpa [plain] using h))
    | tuple c => cases d with
      | zero => simp [plain] at h
      | succ d => obtain ⟨c⟩ := c; exact .tuple c c (VRs.plain_of (fun v hv => VR.of_plain d v hv) c (by simpa [plain] using h))
    | iface t v => cases d with
      | zero => simp [plain] at h
      | succ d => exact .iface t v v (VR.of_plain d v (by simpa [plain] using h))
    | func fn b c =>
      obtain ⟨b⟩ := b; obtain ⟨c⟩ := c
      cases fn <;> cases d <;> simp [plain] at h <;> (obtain ⟨rfl, rfl⟩ := h; exact .func _ _ _ _ _ .nil .nil)
    | float _ _ => cases d <;> simp [plain] at h
    | complex _ _ _ => cases d <;> simp [plain] at h
    | map _ => cases d <;> simp [plain] at h
    | chan _ => cases d <;> simp [plain] at h
 termination_by d => d
theorem VRs.eq_of_plain {φ : Inj} {d : Nat} (ih : ∀ v v', plain d v = true → VR φ v v' → v' = v) : ∀ {l l' : List Value}, l.all (plain d) = true → VRs φ l l' → l' = l
  | _, _, _, .nil => rfl
  | _, _, h, .cons _ _ _ _ hv hl => by
    simp at h
    rw [ih _ _ h.1 hv, VRs.eq_of_plain ih (by simpa using h.2) hl]
theorem VR.eq_of_plain {φ : Inj} : ∀ (d : Nat) (v v' : Value), plain d v = true → VR φ v v' → v' = v
  | d, v, v', h, hr => by
    cases hr with
    | bool | int | string | ptrNil | sliceNil | nilFunc | nilIface => rfl
    | ptr => cases d <;> simp [plain] at h
    | slice => cases d <;> simp [plain] at h
    | sliceUnk => cases d <;> simp [plain] at h
    | func f b b' c c' hb hc =>
      have : b = [] ∧ c = [] := by cases d <;> simpa [plain] using h
      obtain ⟨rfl, rfl⟩ := this
      cases hb; cases hc; rfl
    | iface t w w' hw => cases d with
      | zero => simp [plain] at h
      | succ d => rw [VR.eq_of_plain d w w' (by simpa [plain] using h) hw]
    | agg c c' hc => cases d with
      | zero => simp [plain] at h
      | succ d => rw [VRs.eq_of_plain (fun v v' hv hr => VR.eq_of_plain d v v' hv hr) (by simpa [plain] using h) hc]
    | tuple c c' hc => cases d with
      | zero => simp [plain] at h
      | succ d => rw [VRs.eq_of_plain (fun v v' hv hr => VR.eq_of_plain d v v' hv hr) (by simpa [plain] using h) hc]
 termination_by d => d
def idsLt (n : Nat) : Nat → Value → Bool
  | _, .pointer (some a) => a.block < n
  | _, .slice (some a) _ _ => a.block < n
  | _, .bool _ | _, .int _ _ | _, .string _ | _, .pointer none | _, .slice none _ _ | _, .nilFunc | _, .nilIface => true
  | d + 1, .agg c => c.toList.all (idsLt n d)
  | d + 1, .tuple c => c.toList.all (idsLt n d)
  | d + 1, .iface _ v => idsLt n d v
  | d + 1, .func (.func _) b c => b.toList.all (idsLt n d) && c.toList.all (idsLt n d)
  | _, _ => false
def Inj.cut (φ : Inj) (n : Nat) : Inj := fun i => if i < n then φ i else none
theorem AddrR.cut {φ : Inj} {n : Nat} {a a' : Addr} (h : AddrR φ a a') (hn : a.block < n) : AddrR (φ.cut n) a a' :=
  let ⟨e, h1, h2⟩ := h
  ⟨e, by simp [Inj.cut, hn, h1], h2⟩
theorem VRs.cut_of {φ : Inj} {n d : Nat} (ih : ∀ v v', idsLt n d v = true → VR φ v v' → VR (φ.cut n) v v') : ∀ {l l' : List Value}, l.all (idsLt n d) = true → VRs φ l l' → VRs (φ.cut n) l l'
  | _, _, _, .nil => .nil
  | _, _, h, .cons _ _ _ _ hv hl => by
    simp at h
    exact .cons _ _ _ _ (ih _ _ h.1 hv) (VRs.cut_of ih (by simpa using h.2) hl)
theorem VR.cut {φ : Inj} {n : Nat} : ∀ (d : Nat) (v v' : Value), idsLt n d v = true → VR φ v v' → VR (φ.cut n) v v'
  | d, v, v', h, hr => by
    cases hr with
    | bool b => exact .bool b
    | int k m => exact .int k m
    | string s => exact .string s
    | ptrNil => exact .ptrNil
    | sliceNil l c => exact .sliceNil l c
    | nilFunc => exact .nilFunc
    | nilIface => exact .nilIface
    | ptr a a' ha => exact .ptr a a' (ha.cut (by cases d <;> simpa [idsLt] using h))
    | slice a a' l c ha hc => exact .slice a a' l c (ha.cut (by cases d <;> simpa [idsLt] using h)) hc
    | sliceUnk a e l c ha hl ht =>
      have hn : a.block < n := by cases d <;> simpa [idsLt] using h
      exact .sliceUnk a e l c (by simp [Inj.cut, hn, ha]) hl ht
    | func f b b' c c' hb hc => cases d with
      | zero => simp [idsLt] at h
      | succ d =>
        simp only [idsLt, Bool.and_eq_true] at h
        exact .func f b b' c c' (VRs.cut_of (fun v v' hv hr => VR.cut d v v' hv hr) h.1 hb) (VRs.cut_of (fun v v' hv hr => VR.cut d v v' hv hr) h.2 hc)
    | iface t w w' hw => cases d with
      | zero => simp [idsLt] at h
      | succ d => exact .iface t w w' (VR.cut d w w' (by simpa [idsLt] using h) hw)
    | agg c c' hc => cases d with
      | zero => simp [idsLt] at h
      | succ d => exact .agg c c' (VRs.cut_of (fun v v' hv hr => VR.cut d v v' hv hr) (by simpa [idsLt] using h) hc)
    | tuple c c' hc => cases d with
      | zero => simp [idsLt] at h
      | succ d => exact .tuple c c' (VRs.cut_of (fun v v' hv hr => VR.cut d v v' hv hr) (by simpa [idsLt] using h) hc)
 termination_by d => d
end Go.Am
namespace Go.Am
open Go
inductive Tr (α : Type) where
  | nil
  | node (v : Option α) (l r : Tr α)
variable {α : Type}
def Tr.get : Tr α → Nat → Option α
  | .nil, _ => none
  | .node v l r, p => match Nat.beq p 1 with
    | true => v
    | false => match Nat.beq (Nat.land p 1) 0 with
      | true => l.get (Nat.div p 2)
      | false => r.get (Nat.div p 2)
def Tr.setF : Nat → Tr α → Nat → Option α → Tr α
  | 0, t, _, _ => t
  | d + 1, .nil, p, x => match Nat.beq p 1 with
    | true => .node x .nil .nil
    | false => match Nat.beq (Nat.land p 1) 0 with
      | true => .node none (Tr.setF d .nil (Nat.div p 2) x) .nil
      | false => .node none .nil (Tr.setF d .nil (Nat.div p 2) x)
  | d + 1, .node v l r, p, x => match Nat.beq p 1 with
    | true => .node x l r
    | false => match Nat.beq (Nat.land p 1) 0 with
      | true => .node v (Tr.setF d l (Nat.div p 2) x) r
      | false => .node v l (Tr.setF d r (Nat.div p 2) x)
def Tr.set (t : Tr α) (p : Nat) (x : Option α) : Tr α := Tr.setF p t p x
theorem bff {a b : Nat} (h : Nat.beq a b = false) : a ≠ b := by
  intro e; subst e; simp at h
theorem blt_ff {a b : Nat} (h : Nat.blt a b = false) : b ≤ a := by
  rcases Nat.lt_or_ge a b with h' | h'
  · have e : Nat.blt a b = true := by simpa using h'
    rw [e] at h; cases h
  · exact h'
theorem blt_tt {a b : Nat} (h : a < b) : Nat.blt a b = true := by simpa using h
theorem ff_blt {a b : Nat} (h : b ≤ a) : Nat.blt a b = false := by
  cases hb : Nat.blt a b with
  | false => rfl
  | true => have : a < b := by simpa using hb
            omega
theorem land_one (p : Nat) : Nat.land p 1 = p % 2 := Nat.and_one_is_mod p
theorem Tr.get_setF : ∀ (d : Nat) (t : Tr α) (p q : Nat) (x : Option α), 1 ≤ p → p ≤ d → 1 ≤ q → (Tr.setF d t p x).get q = if p = q then x else t.get q
  | 0, t, p, q, x, h1, h2, _ => by omega
  | d + 1, .nil, p, q, x, h1, h2, hq => by
    unfold Tr.setF
    split
    · rename_i hp
      have : p = 1 := by simpa using hp
      subst this
      simp only [Tr.get]
      split
      · rename_i hq1
        have : q = 1 := by simpa using hq1
        subst this; simp
      · rename_i hq1
        have : q ≠ 1 := bff hq1
        rw [if_neg (by omega)]
        split <;> rfl
    · rename_i hp
      have hp1 : p ≠ 1 := bff hp
      split
      · rename_i he
        have he' : p % 2 = 0 := by rw [land_one] at he; simpa using he
        simp only [Tr.get]
        split
        · rename_i hq1
          have : q = 1 := by simpa using hq1
          rw [if_neg (by omega)]
        · rename_i hq1
          have hq2 : q ≠ 1 := bff hq1
          split
          · rename_i hqe
            have hqe' : q % 2 = 0 := by rw [land_one] at hqe; simpa using hqe
            rw [Tr.get_setF d .nil (p.div 2) (q.div 2) x (by show 1 ≤ p / 2; omega) (by show p / 2 ≤ d; omega) (by show 1 ≤ q / 2; omega)]
            have : (p.div 2 = q.div 2) ↔ p = q := by show (p / 2 = q / 2) ↔ p = q; omega
            simp only [this, Tr.get]
          · rename_i hqe
            have hqe' : q % 2 ≠ 0 := by rw [land_one] at hqe; exact bff hqe
            rw [if_neg (by omega)]
      · rename_i he
        have he' : p % 2 ≠ 0 := by rw [land_one] at he; exact bff he
        simp only [Tr.get]
        split
        · rename_i hq1
          have : q = 1 := by simpa using hq1
          rw [if_neg (by omega)]
        · rename_i hq1
          have hq2 : q ≠ 1 := bff hq1
          split
          · rename_i hqe
            have hqe' : q % 2 = 0 := by rw [land_one] at hqe; simpa using hqe
            rw [if_neg (by omega)]
          · rename_i hqe
            have hqe' : q % 2 ≠ 0 := by rw [land_one] at hqe; exact bff hqe
            rw [Tr.get_setF d .nil (p.div 2) (q.div 2) x (by show 1 ≤ p / 2; omega) (by show p / 2 ≤ d; omega) (by show 1 ≤ q / 2; omega)]
            have : (p.div 2 = q.div 2) ↔ p = q := by show (p / 2 = q / 2) ↔ p = q; omega
            simp only [this, Tr.get]
  | d + 1, .node v l r, p, q, x, h1, h2, hq => by
    unfold Tr.setF
    split
    · rename_i hp
      have : p = 1 := by simpa using hp
      subst this
      simp only [Tr.get]
      split
      · rename_i hq1
        have : q = 1 := by simpa using hq1
        subst this; simp
      · rename_i hq1
        have : q ≠ 1 := bff hq1
        rw [if_neg (by omega)]
    · rename_i hp
      have hp1 : p ≠ 1 := bff hp
      split
      · rename_i he
        have he' : p % 2 = 0 := by rw [land_one] at he; simpa using he
        simp only [Tr.get]
        split
        · rename_i hq1
          have : q = 1 := by simpa using hq1
          rw [if_neg (by omega)]
        · rename_i hq1
          have hq2 : q ≠ 1 := bff hq1
          split
          · rename_i hqe
            have hqe' : q % 2 = 0 := by rw [land_one] at hqe; simpa using hqe
            rw [Tr.get_setF d l (p.div 2) (q.div 2) x (by show 1 ≤ p / 2; omega) (by show p / 2 ≤ d; omega) (by show 1 ≤ q / 2; omega)]
            have : (p.div 2 = q.div 2) ↔ p = q := by show (p / 2 = q / 2) ↔ p = q; omega
            simp only [this]
          · rename_i hqe
            have hqe' : q % 2 ≠ 0 := by rw [land_one] at hqe; exact bff hqe
            rw [if_neg (by omega)]
      · rename_i he
        have he' : p % 2 ≠ 0 := by rw [land_one] at he; exact bff he
        simp only [Tr.get]
        split
        · rename_i hq1
          have : q = 1 := by simpa using hq1
          rw [if_neg (by omega)]
        · rename_i hq1
          have hq2 : q ≠ 1 := bff hq1
          split
          · rename_i hqe
            have hqe' : q % 2 = 0 := by rw [land_one] at hqe; simpa using hqe
            rw [if_neg (by omega)]
          · rename_i hqe
            have hqe' : q % 2 ≠ 0 := by rw [land_one] at hqe; exact bff hqe
            rw [Tr.get_setF d r (p.div 2) (q.div 2) x (by show 1 ≤ p / 2; omega) (by show p / 2 ≤ d; omega) (by show 1 ≤ q / 2; omega)]
            have : (p.div 2 = q.div 2) ↔ p = q := by show (p / 2 = q / 2) ↔ p = q; omega
            simp only [this]
theorem Tr.get_set (t : Tr α) (i j : Nat) (x : Option α) : (t.set (i + 1) x).get (j + 1) = if i = j then x else t.get (j + 1) := by
  unfold Tr.set
  rw [Tr.get_setF (i + 1) t (i + 1) (j + 1) x (by omega) (Nat.le_refl _) (by omega)]
  simp
theorem Tr.setF_fuel : ∀ (d e : Nat) (t : Tr α) (p : Nat) (x : Option α), 1 ≤ p → p ≤ d → p ≤ e → Tr.setF d t p x = Tr.setF e t p x
  | 0, e, t, p, x, h1, h2, _ => by omega
  | d + 1, 0, t, p, x, h1, _, h3 => by omega
  | d + 1, e + 1, t, p, x, h1, h2, h3 => by
    have key : ∀ u : Tr α, p ≠ 1 → Tr.setF d u (p.div 2) x = Tr.setF e u (p.div 2) x := fun u hp =>
      Tr.setF_fuel d e u (p.div 2) x (by show 1 ≤ p / 2; omega) (by show p / 2 ≤ d; omega) (by show p / 2 ≤ e; omega)
    cases t with
    | nil =>
      simp only [Tr.setF]
      split
      · rfl
      · rename_i hp
        split <;> rw [key _ (bff hp)]
    | node v l r =>
      simp only [Tr.setF]
      split
      · rfl
      · rename_i hp
        split <;> rw [key _ (bff hp)]
theorem Tr.setF_comm : ∀ (d : Nat) (t : Tr α) (p q : Nat) (x y : Option α), 1 ≤ p → p ≤ d → 1 ≤ q → q ≤ d → p ≠ q → Tr.setF d (Tr.setF d t p x) q y = Tr.setF d (Tr.setF d t q y) p x
  | 0, t, p, q, x, y, h1, h2, _, _, _ => by omega
  | d + 1, t, p, q, x, y, h1, h2, h3, h4, hne => by
    have ih : ∀ u : Tr α, p ≠ 1 → q ≠ 1 → Nat.land p 1 = Nat.land q 1 → Tr.setF d (Tr.setF d u (p.div 2) x) (q.div 2) y = Tr.setF d (Tr.setF d u (q.div 2) y) (p.div 2) x := fun u hp hq he => by
      rw [land_one, land_one] at he
      exact Tr.setF_comm d u (p.div 2) (q.div 2) x y (by show 1 ≤ p / 2; omega) (by show p / 2 ≤ d; omega) (by show 1 ≤ q / 2; omega) (by show q / 2 ≤ d; omega) (by show p / 2 ≠ q / 2; omega)
    have par : ∀ (a : Nat), Nat.beq (Nat.land a 1) 0 = true ∨ Nat.beq (Nat.land a 1) 0 = false := fun a => by cases Nat.beq (Nat.land a 1) 0 <;> simp
    have one : ∀ (a : Nat), Nat.beq a 1 = true ∨ Nat.beq a 1 = false := fun a => by cases Nat.beq a 1 <;> simp
    have even : ∀ {a : Nat}, Nat.beq (Nat.land a 1) 0 = true → Nat.land a 1 = 0 := fun h => by simpa using h
    have odd : ∀ {a : Nat}, Nat.beq (Nat.land a 1) 0 = false → Nat.land a 1 = 1 := fun {a} h => by
      have := bff h
      rw [land_one] at this ⊢; omega
    rcases one p with hp | hp <;> rcases one q with hq | hq
    · have : p = 1 := by simpa using hp
      have : q = 1 := by simpa using hq
      omega
    · rcases par q with hq2 | hq2 <;> cases t <;> simp only [Tr.setF, hp, hq, hq2]
    · rcases par p with hp2 | hp2 <;> cases t <;> simp only [Tr.setF, hp, hq, hp2]
    · rcases par p with hp2 | hp2 <;> rcases par q with hq2 | hq2 <;> cases t <;> simp only [Tr.setF, hp, hq, hp2, hq2]
      · rw [ih _ (bff hp) (bff hq) (by rw [even hp2, even hq2])]
      · rw [ih _ (bff hp) (bff hq) (by rw [even hp2, even hq2])]
      · rw [ih _ (bff hp) (bff hq) (by rw [odd hp2, odd hq2])]
      · rw [ih _ (bff hp) (bff hq) (by rw [odd hp2, odd hq2])]
theorem Tr.set_comm (t : Tr α) (i j : Nat) (x y : Option α) (h : i ≠ j) : (t.set (i + 1) x).set (j + 1) y = (t.set (j + 1) y).set (i + 1) x := by
  unfold Tr.set
  rw [Tr.setF_fuel (i + 1) (i + j + 2) t (i + 1) x (by omega) (by omega) (by omega), Tr.setF_fuel (j + 1) (i + j + 2) _ (j + 1) y (by omega) (by omega) (by omega),
    Tr.setF_fuel (j + 1) (i + j + 2) t (j + 1) y (by omega) (by omega) (by omega), Tr.setF_fuel (i + 1) (i + j + 2) _ (i + 1) x (by omega) (by omega) (by omega)]
  exact Tr.setF_comm _ _ _ _ _ _ (by omega) (by omega) (by omega) (by omega) (by omega)
inductive AObj where
  | cells (c : List Value) (elem : TypeId) (exact ro : Bool) (ver : Nat)
  | raw (o : Obj) (ver : Nat)
def AObj.ver : AObj → Nat
  | .cells _ _ _ _ v => v
  | .raw _ v => v
def AObj.ro : AObj → Bool
  | .cells _ _ _ r _ => r
  | .raw _ _ => false
structure AHeap where
  t : Tr AObj
  n : Nat
  log : List Nat
def AHeap.get (H : AHeap) (i : Nat) : Option (Option AObj) :=
  match Nat.blt i H.n with
  | true => some (H.t.get (Nat.succ i))
  | false => none
def AHeap.set (H : AHeap) (i : Nat) (o : Option AObj) : AHeap :=
  match Nat.blt i H.n with
  | true => ⟨H.t.set (Nat.succ i) o, H.n, i :: H.log⟩
  | false => H
def AHeap.push (H : AHeap) (o : Option AObj) : AHeap := ⟨H.t.set (Nat.succ H.n) o, Nat.succ H.n, H.log⟩
theorem AHeap.get_none {H : AHeap} {i : Nat} (h : H.n ≤ i) : H.get i = none := by
  unfold AHeap.get
  split
  · rename_i hb; have : i < H.n := by simpa using hb
    omega
  · rfl
theorem AHeap.lt_of_get {H : AHeap} {i : Nat} {o : Option AObj} (h : H.get i = some o) : i < H.n := by
  rcases Nat.lt_or_ge i H.n with h' | h'
  · exact h'
  · rw [AHeap.get_none h'] at h; cases h
theorem AHeap.get_set {H : AHeap} {i j : Nat} {o : Option AObj} : (H.set i o).get j = if i = j ∧ j < H.n then some o else H.get j := by
  unfold AHeap.set
  split
  · rename_i hb
    have hi : i < H.n := by simpa using hb
    unfold AHeap.get
    simp only []
    split
    · rename_i hj
      have hj' : j < H.n := by simpa using hj
      rw [Tr.get_set]
      by_cases hij : i = j <;> simp [hij, hj']
    · rename_i hj
      have hj' : ¬ j < H.n := by have := blt_ff hj; omega
      rw [if_neg (by omega)]
  · rename_i hb
    have hi : ¬ i < H.n := by have := blt_ff hb; omega
    rw [if_neg (by omega)]
theorem AHeap.set_n {H : AHeap} {i : Nat} {o : Option AObj} : (H.set i o).n = H.n := by
  unfold AHeap.set; split <;> rfl
theorem AHeap.set_log {H : AHeap} {i : Nat} {o : Option AObj} (h : i < H.n) : (H.set i o).log = i :: H.log := by
  unfold AHeap.set
  split
  · rfl
  · rename_i hb
    have hi : ¬ i < H.n := by have := blt_ff hb; omega
    omega
theorem AHeap.get_push {H : AHeap} {j : Nat} {o : Option AObj} : (H.push o).get j = if j = H.n then some o else H.get j := by
  unfold AHeap.push AHeap.get
  simp only []
  split
  · rename_i hj
    have hj' : j < H.n + 1 := by simpa using hj
    rw [Tr.get_set]
    by_cases h : j = H.n
    · simp [h]
    · rw [if_neg (by omega), if_neg h]
      have : Nat.blt j H.n = true := by simpa using (by omega : j < H.n)
      rw [this]
  · rename_i hj
    have hj' : ¬ j < H.n + 1 := by have := blt_ff hj; omega
    rw [if_neg (by omega)]
    have : Nat.blt j H.n = false := ff_blt (by omega)
    rw [this]
def AHeap.take (H : AHeap) (m : Nat) (log : List Nat) : AHeap := ⟨H.t, Nat.min m H.n, log⟩
theorem AHeap.get_take {H : AHeap} {m j : Nat} {log : List Nat} : (H.take m log).get j = if j < m then H.get j else none := by
  unfold AHeap.take AHeap.get
  simp only []
  have hmin : Nat.min m H.n = if m ≤ H.n then m else H.n := rfl
  by_cases h : j < m
  · rw [if_pos h]
    by_cases h2 : j < H.n
    · have : Nat.blt j (Nat.min m H.n) = true := blt_tt (by rw [hmin]; split <;> omega)
      rw [this]
      have : Nat.blt j H.n = true := by simpa using h2
      rw [this]
    · have : Nat.blt j (Nat.min m H.n) = false := ff_blt (by rw [hmin]; split <;> omega)
      rw [this]
      have : Nat.blt j H.n = false := ff_blt (by omega)
      rw [this]
  · rw [if_neg h]
    have : Nat.blt j (Nat.min m H.n) = false := ff_blt (by rw [hmin]; split <;> omega)
    rw [this]
end Go.Am
namespace Go.Am
open Go
def free (fr : Nat × Nat) (total : Nat) : Prop := ∀ j, j < total → ¬ (fr.1 ≤ j ∧ j < fr.2)
def OR (P : Program) (φ : Inj) (e : Ent) : AObj → Obj → Prop
  | .cells c elem exact _ _, .cells c' elem' fr => elem' = elem ∧ free fr e.total ∧ c'.size = e.total ∧ (P.info? elem).map (·.size) = some e.esz ∧
      c.length ≤ c'.size ∧ VRs φ c (c'.toList.take c.length) ∧ (exact = true → c.length = c'.size)
  | .raw o _, o' => o' = o ∧ ∀ c t f, o ≠ .cells c t f
  | _, _ => False
theorem OR.mono {P : Program} {φ φ' : Inj} (h : φ.le φ') {e : Ent} : ∀ {o : AObj} {o' : Obj}, OR P φ e o o' → OR P φ' e o o'
  | .cells .., .cells .., ⟨a, b, c, d, f, g, i⟩ => ⟨a, b, c, d, f, g.mono h, i⟩
  | .raw .., _, hr => hr
  | .cells .., .pending .., hr | .cells .., .view .., hr | .cells .., .number .., hr | .cells .., .map .., hr | .cells .., .chan .., hr
  | .cells .., .stringIter .., hr | .cells .., .mapIter .., hr | .cells .., .loop .., hr | .cells .., .deferred .., hr | .cells .., .coro .., hr | .cells .., .finalizers .., hr => hr.elim
structure Emb (P : Program) (φ : Inj) (H : AHeap) (w : World) : Prop where
  obj : ∀ i o, H.get i = some (some o) → ∃ e o', φ i = some e ∧ w.heap[e.blk]? = some o' ∧ OR P φ e o o'
  inj : ∀ i j oi oj ei ej, H.get i = some (some oi) → H.get j = some (some oj) → φ i = some ei → φ j = some ej → ei.blk = ej.blk → i = j
  fresh : ∀ i, H.n ≤ i → φ i = none
  glob : ∀ g, g < P.globals.size → ∃ e, φ g = some e ∧ e.blk = g
structure Step (φ : Inj) (H : AHeap) (w : World) (φ' : Inj) (H' : AHeap) (w' : World) : Prop where
  le : φ.le φ'
  os : w'.os = w.os
  tape : w'.tape = w.tape
  output : w'.output = w.output
  size : w.heap.size ≤ w'.heap.size
  out : ∀ b, b < w.heap.size → (∀ i o e, H.get i = some (some o) → o.ro = false → φ i = some e → e.blk ≠ b) → w'.heap[b]? = w.heap[b]?
  same : ∀ i o o' e, H.get i = some (some o) → H'.get i = some (some o') → o'.ver = o.ver → φ i = some e → o' = o ∧ w'.heap[e.blk]? = w.heap[e.blk]?
  vers : ∀ i o', i < H.n → H'.get i = some (some o') → ∃ o, H.get i = some (some o) ∧ o.ver ≤ o'.ver ∧ o'.ro = o.ro
  len : H.n ≤ H'.n
  log : ∃ l, H'.log = l ++ H.log ∧ ∀ i, i < H.n → i ∉ l → H'.get i = H.get i
  nw : ∀ j o' e, H.n ≤ j → H'.get j = some (some o') → φ' j = some e →
    w.heap.size ≤ e.blk ∨ ∃ i o e₀, H.get i = some (some o) ∧ o.ro = false ∧ φ i = some e₀ ∧ e₀.blk = e.blk
theorem Step.refl (φ : Inj) (H : AHeap) (w : World) : Step φ H w φ H w where
  le := Inj.le_refl φ
  os := rfl
  tape := rfl
  output := rfl
  size := Nat.le_refl _
  out := fun _ _ _ => rfl
  same := fun i o o' e h h' _ _ => by rw [h] at h'; simp at h'; exact ⟨h'.symm, rfl⟩
  vers := fun i o' _ h => ⟨o', h, Nat.le_refl _, rfl⟩
  len := Nat.le_refl _
  log := ⟨[], rfl, fun _ _ _ => rfl⟩
  nw := fun j o' e hj h _ => by
    rw [AHeap.get_none hj] at h; cases h
theorem lt_of_get {α : Type} {l : List α} {i : Nat} {x : α} (h : l[i]? = some x) : i < l.length := by
  rcases Nat.lt_or_ge i l.length with h' | h'
  · exact h'
  · rw [List.getElem?_eq_none h'] at h; cases h
theorem Step.trans {P : Program} {φ φ₁ φ₂ : Inj} {H H₁ H₂ : AHeap} {w w₁ w₂ : World} (e0 : Emb P φ H w) (e1 : Emb P φ₁ H₁ w₁)
    (s : Step φ H w φ₁ H₁ w₁) (t : Step φ₁ H₁ w₁ φ₂ H₂ w₂) : Step φ H w φ₂ H₂ w₂ where
  le := Inj.le_trans s.le t.le
  os := t.os.trans s.os
  tape := t.tape.trans s.tape
  output := t.output.trans s.output
  size := Nat.le_trans s.size t.size
  out := fun b hb h => by
    rw [t.out b (Nat.lt_of_lt_of_le hb s.size) ?_, s.out b hb h]
    intro i o₁ e hi hro he
    rcases Nat.lt_or_ge i H.n with hlt | hge
    · obtain ⟨o, ho, _, hr⟩ := s.vers i o₁ hlt hi
      obtain ⟨e', _, he', _, _⟩ := e0.obj i o ho
      have := s.le _ _ he'
      rw [he] at this
      cases this
      exact h i o e ho (by rw [← hr]; exact hro) he'
    · rcases s.nw i o₁ e hge hi he with h1 | ⟨i0, o0, e₀, h2, h3, h4, h5⟩
      · omega
      · rw [← h5]; exact h i0 o0 e₀ h2 h3 h4
  same := fun i o o' e h h' hv he => by
    have hlt := AHeap.lt_of_get h
    obtain ⟨o₁, h₁, hle₁, _⟩ := t.vers i o' (Nat.lt_of_lt_of_le hlt s.len) h'
    obtain ⟨o₀, h₀, hle₀, _⟩ := s.vers i o₁ hlt h₁
    rw [h] at h₀; simp at h₀; subst h₀
    obtain ⟨rfl, hw₁⟩ := s.same i o o₁ e h h₁ (by omega) he
    obtain ⟨rfl, hw₂⟩ := t.same i o₁ o' e h₁ h' hv (s.le _ _ he)
    exact ⟨rfl, hw₂.trans hw₁⟩
  vers := fun i o' hlt h => by
    obtain ⟨o₁, h₁, hle₁, r₁⟩ := t.vers i o' (Nat.lt_of_lt_of_le hlt s.len) h
    obtain ⟨o₀, h₀, hle₀, r₀⟩ := s.vers i o₁ hlt h₁
    exact ⟨o₀, h₀, Nat.le_trans hle₀ hle₁, r₁.trans r₀⟩
  len := Nat.le_trans s.len t.len
  log := by
    obtain ⟨l, h1, h2⟩ := s.log
    obtain ⟨m, h3, h4⟩ := t.log
    refine ⟨m ++ l, by rw [h3, h1, List.append_assoc], fun i hi hn => ?_⟩
    simp only [List.mem_append, not_or] at hn
    rw [h4 i (Nat.lt_of_lt_of_le hi s.len) hn.1, h2 i hi hn.2]
  nw := fun j o' e hj h he => by
    have old : ∀ i1 o1 e₁, H₁.get i1 = some (some o1) → o1.ro = false → φ₁ i1 = some e₁ →
        w.heap.size ≤ e₁.blk ∨ ∃ i o e₀, H.get i = some (some o) ∧ o.ro = false ∧ φ i = some e₀ ∧ e₀.blk = e₁.blk := by
      intro i1 o1 e₁ h1 hr1 he1
      rcases Nat.lt_or_ge i1 H.n with hlt | hge
      · obtain ⟨o0, h0, _, hr⟩ := s.vers i1 o1 hlt h1
        obtain ⟨e', _, he', _, _⟩ := e0.obj i1 o0 h0
        have := s.le _ _ he'
        rw [he1] at this; cases this
        exact .inr ⟨i1, o0, e₁, h0, by rw [← hr]; exact hr1, he', rfl⟩
      · exact s.nw i1 o1 e₁ hge h1 he1
    rcases Nat.lt_or_ge j H₁.n with hlt | hge
    · obtain ⟨o₁, h₁, _, _⟩ := t.vers j o' hlt h
      obtain ⟨e', _, he', _, _⟩ := e1.obj j o₁ h₁
      have := t.le _ _ he'
      rw [he] at this; cases this
      exact s.nw j o₁ e hj h₁ he'
    · rcases t.nw j o' e hge h he with h1 | ⟨i1, o1, e₁, a, b, c, d⟩
      · exact .inl (Nat.le_trans s.size h1)
      · rw [← d]; exact old i1 o1 e₁ a b c
def row (H : AHeap) (a : Addr) : Option (List Value) :=
  if a.spot.isSome then none else
  match H.get a.block with
  | some (some (.cells c _ _ _ _)) => some c
  | _ => none
def rdCell (H : AHeap) (a : Addr) : Option Value := (row H a).bind fun c => c[a.off]?
def rdRow (H : AHeap) (a : Addr) (n : Nat) : Option (List Value) := (row H a).bind fun c => if a.off + n ≤ c.length then some ((c.drop a.off).take n) else none
theorem row_sound {P : Program} {φ : Inj} {H : AHeap} {w : World} (em : Emb P φ H w) {a a' : Addr} (ha : AddrR φ a a') {c : List Value} (h : row H a = some c) :
    a'.spot = none ∧ a'.off = a.off ∧ ∃ e c' t fr, φ a.block = some e ∧ a'.block = e.blk ∧ w.heap[e.blk]? = some (.cells c' t fr) ∧ c'.size = e.total ∧ c.length ≤ c'.size ∧
      VRs φ c (c'.toList.take c.length) := by
  unfold row at h
  split at h
  · cases h
  · rename_i hs
    split at h
    · rename_i c₀ t ex ro ver ho
      simp at h; subst h
      obtain ⟨e, o', he, ho', hr⟩ := em.obj _ _ ho
      obtain ⟨e', he', rfl⟩ := ha
      rw [he] at he'; cases he'
      cases o' <;> simp only [OR] at hr
      rename_i c' t' fr
      obtain ⟨rfl, hf, h1, h2, h3, h4, h5⟩ := hr
      exact ⟨by simpa using hs, rfl, e, c', t', fr, he, rfl, ho', h1, h3, h4⟩
    · cases h
theorem cell_of_block {w : World} {b o : Nat} {c : Array Value} {t : TypeId} {f : Nat × Nat} (h : w.heap[b]? = some (.cells c t f)) :
    w.cell? ⟨b, o, none⟩ = c[o]? := by simp [World.cell?, h]
theorem rdCell_sound {P : Program} {φ : Inj} {H : AHeap} {w : World} (em : Emb P φ H w) {a a' : Addr} (ha : AddrR φ a a') {v : Value} (h : rdCell H a = some v) :
    ∃ v', (∀ w2 : World, w2.heap[a'.block]? = w.heap[a'.block]? → w2.cell? a' = some v') ∧ VR φ v v' := by
  unfold rdCell at h
  cases hr : row H a with
  | none => rw [hr] at h; cases h
  | some c =>
    rw [hr] at h
    simp only [Option.bind_some] at h
    obtain ⟨hs, hoff, e, c', t, fr, he, hb, hw, hsz, hle, hv⟩ := row_sound em ha hr
    obtain ⟨v', h1, h2⟩ := hv.get h
    refine ⟨v', fun w2 hw2 => ?_, h2⟩
    have ea : a' = ⟨e.blk, a.off, none⟩ := by cases a'; simp_all
    rw [hb, hw] at hw2
    rw [ea, cell_of_block hw2]
    have hlt := lt_of_get h
    rw [List.getElem?_take] at h1
    rw [if_pos hlt] at h1
    simpa using h1
theorem add_off (b o i : Nat) : (Addr.mk b o none).add i = ⟨b, o + i, none⟩ := by
  unfold Addr.add
  split
  · rename_i h; subst h; rfl
  · rfl
theorem rdRow_sound {P : Program} {φ : Inj} {H : AHeap} {w : World} (em : Emb P φ H w) {a a' : Addr} (ha : AddrR φ a a') {n : Nat} {vs : List Value} (h : rdRow H a n = some vs) :
    ∃ vs', (∀ w2 : World, w2.heap[a'.block]? = w.heap[a'.block]? → (loadCells a' n).run P w2 = .ok ⟨vs'⟩ w2) ∧ VRs φ vs vs' ∧ vs.length = n := by
  unfold rdRow at h
  cases hr : row H a with
  | none => rw [hr] at h; cases h
  | some c =>
    rw [hr] at h
    simp only [Option.bind_some] at h
    split at h
    · rename_i hle
      simp at h; subst h
      obtain ⟨hs, hoff, e, c', t, fr, he, hb, hw, hsz, hlc, hv⟩ := row_sound em ha hr
      have ea : a' = ⟨e.blk, a.off, none⟩ := by cases a'; simp_all
      refine ⟨(c'.toList.drop a.off).take n, fun w2 hw2 => ?_, ?_, by simp; omega⟩
      · rw [hb, hw] at hw2
        have hlen : ((c'.toList.drop a.off).take n).length = n := by simp; omega
        have := run_loadCells_list (P := P) (w := w2) a' ((c'.toList.drop a.off).take n) ?_
        · rw [hlen] at this; simpa using this
        · intro j v hj
          rw [ea, add_off, cell_of_block hw2]
          have hlt := lt_of_get hj
          rw [hlen] at hlt
          rw [List.getElem?_take, if_pos hlt, List.getElem?_drop] at hj
          simpa using hj
      · have h2 := (hv.drop a.off).take n
        have e1 : ((c'.toList.take c.length).drop a.off).take n = (c'.toList.drop a.off).take n := by
          rw [List.drop_take, List.take_take]
          congr 1
          omega
        rwa [e1] at h2
    · cases h
end Go.Am
namespace Go.Am
open Go
theorem run_storeCells_free (P : Program) (g o : Nat) (t : TypeId) (fr : Nat × Nat) : ∀ (vs : List Value) (i : Nat) (cur : Array Value) (w : World), w.heap[g]? = some (.cells cur t fr) → free fr cur.size →
    o + i + vs.length ≤ cur.size → (∀ v ∈ vs, v.oneCell' = true) →
    (storeCells ⟨g, o, none⟩ vs i).run P w = .ok () (w.setRow g (cur.toList.take (o + i) ++ vs ++ cur.toList.drop (o + i + vs.length)).toArray)
  | [], i, cur, w, hg, _, _, _ => by
    simp only [storeCells, List.append_nil, List.length_nil, Nat.add_zero, List.take_append_drop, Array.toArray_toList]
    rw [setRow_self w g cur t fr hg]
    rfl
  | v :: rest, i, cur, w, hg, hf, hl, h1 => by
    have hi : o + i < cur.size := by simp at hl; omega
    have hadd : (⟨g, o, none⟩ : Addr).add i = ⟨g, o + i, none⟩ := add_off g o i
    have hcell : w.cell? ⟨g, o + i, none⟩ = some cur[o + i] := by simp [World.cell?, hg, hi]
    have hfro : w.frozen? ⟨g, o + i, none⟩ = false := by
      have := hf (o + i) hi
      simp only [World.frozen?, hg]
      obtain ⟨lo, hi'⟩ := fr
      simp at this ⊢
      exact this
    have hst : (store ((⟨g, o, none⟩ : Addr).add i) v).run P w = .ok () (w.setRow g (cur.setIfInBounds (o + i) v)) := by
      rw [hadd, run_store P w _ v _ (h1 v (by simp)), hcell]
      simp [hfro, setCell_eq_setRow w g (o + i) cur t fr v hg]
    have ih := run_storeCells_free P g o t fr rest (i + 1) (cur.setIfInBounds (o + i) v) (w.setRow g (cur.setIfInBounds (o + i) v)) (setRow_heap w g cur _ t _ hg) (by simpa using hf) (by simp at hl ⊢; omega) (fun x hx => h1 x (by simp [hx]))
    simp only [storeCells, Sem.run_bind, hst, Result.andThen_ok, ih, setRow_setRow]
    congr 3
    have e := list_seg_step cur.toList (o + i) v rest (by simp at hl ⊢; omega)
    simpa [Array.toList_setIfInBounds, Nat.add_assoc] using e
theorem VR.oneCell {φ : Inj} {v v' : Value} (h : VR φ v v') : v'.oneCell' = v.oneCell' := by
  cases h <;> rfl
theorem VRs.oneCell {φ : Inj} : ∀ {l l' : List Value}, VRs φ l l' → l.all (·.oneCell') = true → ∀ v ∈ l', v.oneCell' = true
  | _, _, .nil, _ => by simp
  | _, _, .cons v v' l l' h hl, ha => by
    simp only [List.all_cons, Bool.and_eq_true] at ha
    intro x hx
    cases hx with
    | head => rw [h.oneCell]; exact ha.1
    | tail _ hx => exact hl.oneCell ha.2 x hx
theorem VRs.cells {φ : Inj} {v v' : Value} (h : VR φ v v') : VRs φ v.cells.toList v'.cells.toList := by
  cases h <;> first
    | exact .cons _ _ _ _ (by first | exact .bool _ | exact .int _ _ | exact .string _ | exact .ptrNil | exact .ptr _ _ ‹_› | exact .sliceNil _ _ | exact .slice _ _ _ _ ‹_› ‹_› | exact .sliceUnk _ _ _ _ ‹_› ‹_› ‹_› | exact .func _ _ _ _ _ ‹_› ‹_› | exact .nilFunc | exact .iface _ _ _ ‹_› | exact .nilIface | exact .tuple _ _ ‹_›) .nil
    | (rename_i h; exact h)
theorem seg_take (L vs : List Value) (o m : Nat) (h : o + vs.length ≤ m) (hm : m ≤ L.length) :
    (L.take o ++ vs ++ L.drop (o + vs.length)).take m = (L.take m).take o ++ (vs ++ (L.take m).drop (o + vs.length)) := by
  have e1 : (L.take o ++ vs).length = o + vs.length := by simp; omega
  rw [List.take_append, List.take_of_length_le (by omega), e1, List.take_take, Nat.min_eq_left (by omega), List.drop_take, List.append_assoc]
def wrRow (H : AHeap) (a : Addr) (vs : List Value) : Option AHeap :=
  if a.spot.isSome then none else
  match H.get a.block with
  | some (some (.cells c t ex false ver)) =>
    if a.off + vs.length ≤ c.length && vs.all (·.oneCell') then some (H.set a.block (some (.cells (c.take a.off ++ (vs ++ c.drop (a.off + vs.length))) t ex false (ver + 1)))) else none
  | _ => none
theorem setRow_other (w : World) (g : Nat) (cs : Array Value) (b : Nat) (h : b ≠ g) : (w.setRow g cs).heap[b]? = w.heap[b]? := by
  simp only [World.setRow, Array.getElem?_modify]
  rw [if_neg (by omega)]
theorem step_set {P : Program} {φ : Inj} {H : AHeap} {w : World} (em : Emb P φ H w) {i : Nat} {o o₂ : AObj} {e : Ent} {w' : World} {x : Obj}
    (ho : H.get i = some (some o)) (he : φ i = some e) (hro : o.ro = false) (hro₂ : o₂.ro = false) (hv : o.ver < o₂.ver)
    (hos : w'.os = w.os) (htape : w'.tape = w.tape) (hout : w'.output = w.output) (hsz : w'.heap.size = w.heap.size)
    (hx : w'.heap[e.blk]? = some x) (hrest : ∀ b, b ≠ e.blk → w'.heap[b]? = w.heap[b]?) (hr : OR P φ e o₂ x) :
    Emb P φ (H.set i (some o₂)) w' ∧ Step φ H w φ (H.set i (some o₂)) w' := by
  have hlt := AHeap.lt_of_get ho
  have hget : ∀ (j : Nat) (oj : AObj), (H.set i (some o₂)).get j = some (some oj) → (j = i ∧ oj = o₂) ∨ (j ≠ i ∧ H.get j = some (some oj)) := by
    intro j oj hj
    rw [AHeap.get_set] at hj
    split at hj
    · rename_i hij; obtain ⟨rfl, _⟩ := hij; simp at hj; exact .inl ⟨rfl, hj.symm⟩
    · rename_i hij
      have hjl := AHeap.lt_of_get hj
      exact .inr ⟨fun h => hij ⟨h.symm, hjl⟩, hj⟩
  refine ⟨⟨?_, ?_, ?_, em.glob⟩, ⟨Inj.le_refl φ, hos, htape, hout, by omega, ?_, ?_, ?_, by rw [AHeap.set_n]; exact Nat.le_refl _, ?_, ?_⟩⟩
  · intro j oj hj
    rcases hget j oj hj with ⟨rfl, rfl⟩ | ⟨hne, hj'⟩
    · exact ⟨e, x, he, hx, hr⟩
    · obtain ⟨ej, xj, hej, hxj, hrj⟩ := em.obj j oj hj'
      refine ⟨ej, xj, hej, ?_, hrj⟩
      rw [hrest]; exact hxj
      intro hb; exact hne (em.inj j i oj o ej e hj' ho hej he hb)
  · intro j k oj ok ej ek hj hk hej hek hb
    have alive : ∀ (j : Nat) (oj : AObj), (H.set i (some o₂)).get j = some (some oj) → ∃ x, H.get j = some (some x) := fun j oj hj => by
      rcases hget j oj hj with ⟨rfl, rfl⟩ | ⟨_, hj'⟩
      · exact ⟨o, ho⟩
      · exact ⟨oj, hj'⟩
    obtain ⟨xj, hxj⟩ := alive j oj hj
    obtain ⟨xk, hxk⟩ := alive k ok hk
    exact em.inj j k xj xk ej ek hxj hxk hej hek hb
  · intro j hj; rw [AHeap.set_n] at hj; exact em.fresh j hj
  · intro b hb h
    exact hrest b fun hbe => h i o e ho hro he hbe.symm
  · intro j oj oj' ej hj hj' hver hej
    rcases hget j oj' hj' with ⟨rfl, rfl⟩ | ⟨hne, hj2⟩
    · rw [ho] at hj; simp at hj; subst hj; omega
    · rw [hj] at hj2; simp at hj2; subst hj2
      refine ⟨rfl, hrest _ fun hb => hne (em.inj j i oj o ej e hj ho hej he hb)⟩
  · intro j oj' _ hj'
    rcases hget j oj' hj' with ⟨rfl, rfl⟩ | ⟨hne, hj2⟩
    · exact ⟨o, ho, by omega, by rw [hro, hro₂]⟩
    · exact ⟨oj', hj2, Nat.le_refl _, rfl⟩
  · refine ⟨[i], by rw [AHeap.set_log hlt]; rfl, fun j hj hn => ?_⟩
    rw [AHeap.get_set, if_neg]
    rintro ⟨rfl, _⟩; simp at hn
  · intro j oj' ej hj hj' _
    have := AHeap.lt_of_get hj'
    rw [AHeap.set_n] at this; omega
theorem wrRow_sound {P : Program} {φ : Inj} {H H' : AHeap} {w : World} (em : Emb P φ H w) {a a' : Addr} (ha : AddrR φ a a') {vs vs' : List Value} (hvs : VRs φ vs vs') (h : wrRow H a vs = some H') :
    ∃ w', (storeCells a' vs').run P w = .ok () w' ∧ Emb P φ H' w' ∧ Step φ H w φ H' w' := by
  unfold wrRow at h
  split at h
  · cases h
  · rename_i hs
    split at h
    · rename_i c t ex ver ho
      split at h
      · rename_i hc
        simp only [Bool.and_eq_true, decide_eq_true_eq] at hc
        obtain ⟨hlen, hone⟩ := hc
        simp only [Option.some.injEq] at h; subst h
        obtain ⟨e, o', he, ho', hr⟩ := em.obj _ _ ho
        obtain ⟨e', he', rfl⟩ := ha
        rw [he] at he'; cases he'
        cases o' <;> simp only [OR] at hr
        rename_i c' t' fr
        obtain ⟨rfl, hf, hsz, hes, hle, hv, hex⟩ := hr
        have hl' := hvs.length
        have ea : ({ a with block := e.blk } : Addr) = ⟨e.blk, a.off, none⟩ := by cases a; simp_all
        have hrun := run_storeCells_free P e.blk a.off t' fr vs' 0 c' w ho' (by rw [hsz]; exact hf) (by omega) (hvs.oneCell hone)
        simp only [Nat.add_zero] at hrun
        refine ⟨_, by rw [ea]; exact hrun, ?_⟩
        refine step_set em ho he rfl rfl (by simp [AObj.ver]) rfl rfl rfl (by simp [World.setRow]) (setRow_heap w e.blk c' _ t' fr ho') (fun b hb => setRow_other w _ _ b hb) ?_
        refine ⟨rfl, hf, ?_, hes, ?_, ?_, ?_⟩
        · simp; omega
        · simp; omega
        · have h1 : (c.take a.off ++ (vs ++ c.drop (a.off + vs.length))).length = c.length := by simp; omega
          rw [h1]
          have h2 := seg_take c'.toList vs' a.off c.length (by omega) (by simpa using hle)
          rw [← hl'] at h2
          simp only [← hl']
          rw [h2]
          exact (hv.take a.off).append (hvs.append (hv.drop _))
        · intro hx
          have := hex hx
          simp; omega
      · cases h
    · cases h
theorem step_new {P : Program} {φ : Inj} {H : AHeap} {w : World} (em : Emb P φ H w) {c : List Value} {c' : Array Value} {elem : TypeId} {exact : Bool} {esz : Nat}
    (hes : (P.info? elem).map (·.size) = some esz) (hle : c.length ≤ c'.size) (hv : VRs φ c (c'.toList.take c.length)) (hx : exact = true → c.length = c'.size) :
    let φ' : Inj := fun i => if i = H.n then some ⟨w.heap.size, c'.size, esz⟩ else φ i
    let w' : World := { w with heap := w.heap.push (.cells c' elem) }
    Emb P φ' (H.push (some (.cells c elem exact false 0))) w' ∧ Step φ H w φ' (H.push (some (.cells c elem exact false 0))) w' := by
  intro φ' w'
  have hfr := em.fresh H.n (Nat.le_refl _)
  have hle' : φ.le φ' := fun i e he => by
    show (if i = H.n then _ else φ i) = some e
    split
    · rename_i hi; subst hi; rw [hfr] at he; cases he
    · exact he
  have hold : ∀ b, b < w.heap.size → w'.heap[b]? = w.heap[b]? := fun b hb => by
    show (w.heap.push _)[b]? = _
    rw [Array.getElem?_push, if_neg (by omega)]
  have hlt : ∀ (i : Nat) (o : AObj) (e : Ent), H.get i = some (some o) → φ i = some e → e.blk < w.heap.size := fun i o e hi he => by
    obtain ⟨e', o', he', ho', _⟩ := em.obj i o hi
    rw [he] at he'; cases he'
    exact (Array.getElem?_eq_some_iff.1 ho').1
  have hn : (H.push (some (AObj.cells c elem exact false 0))).n = H.n + 1 := rfl
  have hget : ∀ (j : Nat) (oj : AObj), (H.push (some (AObj.cells c elem exact false 0))).get j = some (some oj) → (j = H.n ∧ oj = .cells c elem exact false 0) ∨ (j < H.n ∧ H.get j = some (some oj)) := by
    intro j oj hj
    rw [AHeap.get_push] at hj
    split at hj
    · rename_i h; simp at hj; exact .inl ⟨h, hj.symm⟩
    · exact .inr ⟨AHeap.lt_of_get hj, hj⟩
  have phi_old : ∀ j, j < H.n → φ' j = φ j := fun j hj => by
    show (if j = H.n then _ else φ j) = _
    rw [if_neg (by omega)]
  have phi_new : φ' H.n = some ⟨w.heap.size, c'.size, esz⟩ := by
    show (if H.n = H.n then _ else _) = _
    rw [if_pos rfl]
  refine ⟨⟨?_, ?_, ?_, ?_⟩, ⟨hle', rfl, rfl, rfl, by simp [w'], ?_, ?_, ?_, by rw [hn]; omega, ?_, ?_⟩⟩
  · intro j oj hj
    rcases hget j oj hj with ⟨rfl, rfl⟩ | ⟨hj1, hj2⟩
    · refine ⟨_, .cells c' elem, phi_new, by simp [w'], rfl, ?_, rfl, hes, hle, hv.mono hle', hx⟩
      intro j _ h; exact absurd h.2 (Nat.not_lt_zero _)
    · obtain ⟨e, o', he, ho', hr⟩ := em.obj j oj hj2
      exact ⟨e, o', hle' _ _ he, by rw [hold _ (hlt j oj e hj2 he)]; exact ho', hr.mono hle'⟩
  · intro j k oj ok ej ek hj hk hej hek hb
    rcases hget j oj hj with ⟨rfl, rfl⟩ | ⟨hj1, hj2⟩ <;> rcases hget k ok hk with ⟨rfl, rfl⟩ | ⟨hk1, hk2⟩
    · rfl
    · rw [phi_new] at hej; cases hej
      rw [phi_old k hk1] at hek
      have := hlt k ok ek hk2 hek
      simp at hb; omega
    · rw [phi_new] at hek; cases hek
      rw [phi_old j hj1] at hej
      have := hlt j oj ej hj2 hej
      simp at hb; omega
    · rw [phi_old j hj1] at hej; rw [phi_old k hk1] at hek
      exact em.inj j k oj ok ej ek hj2 hk2 hej hek hb
  · intro j hj
    rw [hn] at hj
    show (if j = H.n then _ else φ j) = none
    rw [if_neg (by omega)]; exact em.fresh j (by omega)
  · intro g hg
    obtain ⟨e, he, hb⟩ := em.glob g hg
    exact ⟨e, hle' _ _ he, hb⟩
  · intro b hb _; exact hold b hb
  · intro j o o' e hj hj' hver he
    have hjl := AHeap.lt_of_get hj
    rcases hget j o' hj' with ⟨rfl, rfl⟩ | ⟨_, hj2⟩
    · omega
    · rw [hj] at hj2; simp at hj2; subst hj2
      exact ⟨rfl, hold _ (hlt j o e hj he)⟩
  · intro j o' hj hj'
    rcases hget j o' hj' with ⟨rfl, rfl⟩ | ⟨_, hj2⟩
    · omega
    · exact ⟨o', hj2, Nat.le_refl _, rfl⟩
  · exact ⟨[], rfl, fun j hj _ => by rw [AHeap.get_push, if_neg (by omega)]⟩
  · intro j o' e hj hj' he
    rcases hget j o' hj' with ⟨rfl, rfl⟩ | ⟨hj1, _⟩
    · rw [phi_new] at he; cases he; exact .inl (Nat.le_refl _)
    · omega
end Go.Am
namespace Go.Am
open Go
def sizeT (P : Program) (t : TypeId) : Option Nat := (P.info? t).map (·.size)
def aggT (P : Program) (t : TypeId) : Option Bool :=
  match P.underlying t with
  | some (.struct _) | some (.array ..) => some true
  | some _ => some false
  | none => none
theorem underlying_eq (P : Program) (t : TypeId) (w : World) : (underlying t).run P w = match P.underlying t with | some d => .ok d w | none => .halt (.stuck "no such type") w := by
  unfold underlying
  simp only [Sem.run_bind, run_program, Result.andThen_ok]
  split <;> simp_all
theorem typeInfo_eq (P : Program) (t : TypeId) (w : World) : (typeInfo t).run P w = match P.info? t with | some d => .ok d w | none => .halt (.stuck "no such type") w := by
  unfold typeInfo
  simp only [Sem.run_bind, run_program, Result.andThen_ok]
  split <;> simp_all
theorem sizeOf_of {P : Program} {t : TypeId} {n : Nat} (h : sizeT P t = some n) (w : World) : (sizeOf t).run P w = .ok n w := by
  unfold sizeT at h
  unfold sizeOf
  simp only [Sem.run_bind, typeInfo_eq]
  cases hi : P.info? t with
  | none => rw [hi] at h; cases h
  | some i => rw [hi] at h; simp at h; simp [h]
theorem isAgg_of {P : Program} {t : TypeId} {b : Bool} (h : aggT P t = some b) (w : World) : (isAgg t).run P w = .ok b w := by
  unfold aggT at h
  unfold isAgg
  simp only [Sem.run_bind, underlying_eq]
  cases hd : P.underlying t with
  | none => rw [hd] at h; cases h
  | some d => rw [hd] at h; cases d <;> simp_all
def pureV {α : Type} (P : Program) : Sem α → Option α
  | .pure a => some a
  | .program k => pureV P (k P)
  | .mark _ k => pureV P k
  | _ => none
theorem pureV_run {α : Type} {P : Program} : ∀ {s : Sem α} {a : α}, pureV P s = some a → ∀ w, s.run P w = .ok a w
  | .pure a, b, h, w => by simp [pureV] at h; subst h; rfl
  | .program k, b, h, w => by simp only [pureV] at h; simp only [Sem.run]; exact pureV_run h w
  | .mark m k, b, h, w => by simp only [pureV] at h; simp only [Sem.run]; exact pureV_run h w
  | .load .., _, h, _ | .store .., _, h, _ | .new .., _, h, _ | .shape .., _, h, _ | .freeze .., _, h, _ | .frozen .., _, h, _ | .getObj .., _, h, _
  | .setObj .., _, h, _ | .choose .., _, h, _ | .sys .., _, h, _ | .halt .., _, h, _ => by simp [pureV] at h
def partA (P : Program) (t : TypeId) (c : List Value) (off : Nat) : Option Value :=
  match aggT P t with
  | some true => (sizeT P t).map fun n => .agg ⟨(c.drop off).take n⟩
  | some false => c[off]?
  | none => none
theorem partA_sound {P : Program} {φ : Inj} {t : TypeId} {c c' : List Value} {off : Nat} {v : Value} (hc : VRs φ c c') (h : partA P t c off = some v) :
    ∃ v', (∀ w, (part t ⟨c'⟩ off).run P w = .ok v' w) ∧ VR φ v v' := by
  unfold partA at h
  split at h
  · rename_i ha
    cases hs : sizeT P t with
    | none => rw [hs] at h; cases h
    | some n =>
      rw [hs] at h; simp at h; subst h
      refine ⟨.agg ⟨(c'.drop off).take n⟩, fun w => ?_, .agg _ _ ((hc.drop off).take n)⟩
      unfold part
      simp only [Sem.run_bind, isAgg_of ha, Result.andThen_ok, if_true, sizeOf_of hs, Sem.run_pure]
      congr 2
      apply Array.ext'
      simp
  · rename_i ha
    obtain ⟨v', h1, h2⟩ := hc.get h
    refine ⟨v', fun w => ?_, h2⟩
    unfold part
    simp only [Sem.run_bind, isAgg_of ha, Result.andThen_ok, Bool.false_eq_true, if_false]
    simp [h1]
  · cases h
def hasAll (want : Array (String × TypeId)) (got : Array Method) : Bool := want.toList.all fun (name, sig) => got.any fun m => m.name == name && m.sig == sig
theorem missing_none {want : Array (String × TypeId)} {got : Array Method} (h : hasAll want got = true) : Instr.missingMethod want got = none := by
  unfold hasAll at h
  unfold Instr.missingMethod
  have e : (want.toList.filter fun (x : String × TypeId) => !got.any fun m => m.name == x.1 && m.sig == x.2) = [] := by
    rw [List.filter_eq_nil_iff]
    intro x hx
    have := List.all_eq_true.1 h x hx
    simpa using this
  simp only [e]
  rfl
theorem least_parted (p : String → Bool) (f : String → String) {l : List String} (h : l ≠ []) :
    ∃ m, (match l.partition p with | (un, ex) => Instr.least ex <|> Instr.least (un.map f)) = some m := by
  rw [List.partition_eq_filter_filter]
  simp only []
  cases hx : l.filter (not ∘ p) with
  | cons x xs => exact ⟨_, rfl⟩
  | nil =>
    cases hu : l.filter p with
    | cons x xs => exact ⟨_, rfl⟩
    | nil =>
      exfalso
      cases l with
      | nil => exact h rfl
      | cons x xs =>
        cases hp : p x with
        | true => simp [hp] at hu
        | false => simp [hp] at hx
theorem missing_some {want : Array (String × TypeId)} {got : Array Method} (h : hasAll want got = false) : ∃ m, Instr.missingMethod want got = some m := by
  unfold hasAll at h
  unfold Instr.missingMethod
  refine least_parted _ _ ?_
  intro h0
  simp only [List.map_eq_nil_iff, List.filter_eq_nil_iff] at h0
  have : (want.toList.all fun (x : String × TypeId) => got.any fun m => m.name == x.1 && m.sig == x.2) = true := by
    rw [List.all_eq_true]; intro x hx; simpa using h0 x hx
  rw [this] at h; cases h
end Go.Am
namespace Go.Am
open Go
structure Tm where
  t : Tr Value
  n : Nat
def Tm.get (T : Tm) (i : Nat) : Value :=
  match Nat.blt i T.n with
  | true => match T.t.get (Nat.succ i) with
    | some v => v
    | none => undef
  | false => undef
def Tm.put (T : Tm) (i : Nat) (v : Value) : Tm :=
  match Nat.blt i T.n with
  | true => ⟨T.t.set (Nat.succ i) (some v), T.n⟩
  | false => T
theorem Tm.put_n {T : Tm} {i : Nat} {v : Value} : (T.put i v).n = T.n := by unfold Tm.put; split <;> rfl
theorem Tm.get_put {T : Tm} {i j : Nat} {v : Value} : (T.put i v).get j = if i = j ∧ j < T.n then v else T.get j := by
  unfold Tm.put
  split
  · rename_i hi
    have hi' : i < T.n := by simpa using hi
    unfold Tm.get
    simp only []
    split
    · rename_i hj
      have hj' : j < T.n := by simpa using hj
      rw [Tr.get_set]
      by_cases h : i = j <;> simp [h, hj']
    · rename_i hj
      have := blt_ff hj
      rw [if_neg (by omega)]
  · rename_i hi
    have := blt_ff hi
    rw [if_neg (by omega)]
structure TR (φ : Inj) (T : Tm) (a : Array Value) : Prop where
  size : a.size = T.n
  get : ∀ i, VR φ (T.get i) (a.getD i undef)
theorem TR.mono {φ φ' : Inj} (h : φ.le φ') {T : Tm} {a : Array Value} (r : TR φ T a) : TR φ' T a := ⟨r.size, fun i => (r.get i).mono h⟩
theorem TR.put {φ : Inj} {T : Tm} {a : Array Value} (r : TR φ T a) (d : Nat) {v v' : Value} (hv : VR φ v v') : TR φ (T.put d v) (a.setIfInBounds d v') := by
  refine ⟨by rw [Tm.put_n]; simpa using r.size, fun i => ?_⟩
  rw [Tm.get_put, Array.getD_eq_getD_getElem?, Array.getElem?_setIfInBounds]
  by_cases h : d = i
  · subst h
    by_cases hlt : d < T.n
    · rw [if_pos ⟨rfl, hlt⟩, if_pos rfl, if_pos (by rw [r.size]; exact hlt)]; exact hv
    · rw [if_neg (by omega), if_pos rfl, if_neg (by rw [r.size]; omega)]
      have := r.get d
      rw [Array.getD_eq_getD_getElem?, Array.getElem?_eq_none (by rw [r.size]; omega)] at this
      exact this
  · rw [if_neg (by omega), if_neg h, ← Array.getD_eq_getD_getElem?]; exact r.get i
def evO (P : Program) (tmps : Tm) : Operand → Option Value
  | .tmp t => some (tmps.get t)
  | .const v => if plain 2 v then some v else none
  | .global g => if g < P.globals.size then some (.pointer (some ⟨g, 0, none⟩)) else none
  | .func f => some (.func (.func f) #[] #[])
theorem VR.undef (φ : Inj) : VR φ undef undef := .tuple [] [] .nil
theorem evO_sound {P : Program} {φ : Inj} {tmps : Tm} {ρ' : Operand → Value} {a : Act} (hρ' : ρ' = a.eval) (hg : ∀ g, g < P.globals.size → ∃ e, φ g = some e ∧ e.blk = g)
    (ht : TR φ tmps a.tmps) {x : Operand} {v : Value} (h : evO P tmps x = some v) : VR φ v (ρ' x) := by
  subst hρ'
  cases x with
  | tmp t => simp only [evO, Option.some.injEq] at h; subst h; exact ht.get t
  | const v₀ =>
    simp only [evO] at h
    split at h
    · rename_i hp; simp at h; subst h; exact VR.of_plain 2 _ hp
    · cases h
  | global g =>
    simp only [evO] at h
    split at h
    · rename_i hlt; simp at h; subst h
      obtain ⟨e, he, hb⟩ := hg g hlt
      exact .ptr _ _ ⟨e, he, by simp [hb]⟩
    · cases h
  | func f => simp only [evO, Option.some.injEq] at h; subst h; exact .func _ _ _ _ _ .nil .nil
def mapO {α β : Type} (f : α → Option β) : List α → Option (List β)
  | [] => some []
  | x :: l => match f x, mapO f l with
    | some y, some r => some (y :: r)
    | _, _ => none
theorem mapO_sound {φ : Inj} {ρ : Operand → Option Value} {ρ' : Operand → Value} (hρ : ∀ x v, ρ x = some v → VR φ v (ρ' x)) : ∀ {l : List Operand} {vs : List Value}, mapO ρ l = some vs → VRs φ vs (l.map ρ')
  | [], _, h => by simp [mapO] at h; subst h; exact .nil
  | x :: l, vs, h => by
    simp only [mapO] at h
    split at h
    · rename_i y r hy hr
      simp at h; subst h
      exact .cons _ _ _ _ (hρ x y hy) (mapO_sound hρ hr)
    · cases h
def nilCmp (d : TypeDesc) (a b : Value) : Option Bool :=
  match d, a, b with
  | .pointer _, .pointer none, .pointer (some _) | .pointer _, .pointer (some _), .pointer none => some false
  | .interface _, .nilIface, .iface _ _ | .interface _, .iface _ _, .nilIface => some false
  | .slice _, .slice none _ _, .slice (some _) _ _ | .slice _, .slice (some _) _ _, .slice none _ _ => some false
  | .func _ _ _, .nilFunc, .func (.func _) _ _ | .func _ _ _, .func (.func _) _ _, .nilFunc => some false
  | _, _, _ => none
def eqlV (P : Program) (op : BinOp) (t : TypeId) (a b : Value) : Option Value :=
  match P.underlying t with
  | none => none
  | some d => match nilCmp d a b, op with
    | some r, .eql => some (.bool r)
    | some r, .neq => some (.bool (!r))
    | _, _ => none
theorem nilCmp_related {φ : Inj} {d : TypeDesc} {a b a' b' : Value} {r : Bool} (ha : VR φ a a') (hb : VR φ b b') (h : nilCmp d a b = some r) : nilCmp d a' b' = some r ∧ r = false := by
  unfold nilCmp at h
  split at h <;> simp at h <;> subst h <;> cases ha <;> cases hb <;> exact ⟨rfl, rfl⟩
theorem equalIn_nil {P : Program} {t : TypeId} {d : TypeDesc} {a b : Value} {r : Bool} (hd : P.underlying t = some d) (hr : nilCmp d a b = some r) (n : Nat) (w : World) :
    (Op.equalIn (n + 1) t a b).run P w = .ok r w := by
  unfold Op.equalIn
  simp only [Sem.run_bind, underlying_eq, hd, Result.andThen_ok]
  unfold nilCmp at hr
  split at hr <;> simp at hr <;> subst hr <;> simp
theorem equal_nil {P : Program} {t : TypeId} {d : TypeDesc} {a b : Value} {r : Bool} (hd : P.underlying t = some d) (hr : nilCmp d a b = some r) (w : World) :
    (Op.equal t a b).run P w = .ok r w := equalIn_nil hd hr 9999 w
theorem eqGuard_nil {op : BinOp} {t : TypeId} {x y : Operand} {d : TypeDesc} {a b : Value} {r : Bool} (hr : nilCmp d a b = some r) : eqGuard op t x y a b = pure () := by
  unfold nilCmp at hr
  split at hr <;> first | (cases op <;> rfl) | cases hr
theorem binOp_eql_nil {t : TypeId} {d : TypeDesc} {a b : Value} {r : Bool} (hr : nilCmp d a b = some r) : binOp .eql t a b = (do pure (.bool (← Op.equal t a b))) := by
  unfold nilCmp at hr
  split at hr <;> first | rfl | cases hr
theorem binOp_neq_nil {t : TypeId} {d : TypeDesc} {a b : Value} {r : Bool} (hr : nilCmp d a b = some r) : binOp .neq t a b = (do pure (.bool (!(← Op.equal t a b)))) := by
  unfold nilCmp at hr
  split at hr <;> first | rfl | cases hr
theorem eqlV_sound {P : Program} {φ : Inj} {op : BinOp} {t : TypeId} {x y : Operand} {a b a' b' v : Value} (ha : VR φ a a') (hb : VR φ b b') (h : eqlV P op t a b = some v) :
    (∃ r, v = .bool r) ∧ ∀ w, (do eqGuard op t x y a' b'; binOp op t a' b' : Sem Value).run P w = .ok v w := by
  unfold eqlV at h
  split at h
  · cases h
  · rename_i d hd
    split at h
    · rename_i r hr
      simp at h; subst h
      refine ⟨⟨_, rfl⟩, fun w => ?_⟩
      obtain ⟨hr', _⟩ := nilCmp_related ha hb hr
      rw [eqGuard_nil hr', binOp_eql_nil hr']
      simp [equal_nil hd hr']
    · rename_i r hr
      simp at h; subst h
      refine ⟨⟨_, rfl⟩, fun w => ?_⟩
      obtain ⟨hr', _⟩ := nilCmp_related ha hb hr
      rw [eqGuard_nil hr', binOp_neq_nil hr']
      simp [equal_nil hd hr']
    · cases h
def bound (y : Nat) : Option Value → Option (Option Nat)
  | none => some none
  | some (.int _ i) => if 0 ≤ i ∧ i ≤ y then some (some i.toNat) else none
  | _ => none
def optO (ρ : Operand → Option Value) : Option Operand → Option (Option Value)
  | none => some none
  | some x => (ρ x).map some
def sliceV (deep : Bool) (size : Nat) (a : Addr) (len cap : Nat) (lo hi mx : Option Value) : Option Value :=
  if cap = UNK then
    match mx with
    | some z =>
      match bound len (some z) with
      | some (some m) => match hi with
        | none => none
        | some y => match bound m (some y) with
          | some (some h) => match bound h lo with
            | some l => if m < UNK then some (.slice (some (if m = l.getD 0 then a else a.add (l.getD 0 * size))) (h - l.getD 0) (m - l.getD 0)) else none
            | none => none
          | _ => none
      | _ => none
    | none => match bound len hi with
      | none => none
      | some h => match bound (h.getD len) lo with
        | none => none
        | some l =>
          if l.getD 0 = 0 then some (.slice (some a) (h.getD len) UNK)
          else if deep && decide (l.getD 0 < len) then some (.slice (some (a.add (l.getD 0 * size))) (h.getD len - l.getD 0) UNK) else none
  else if cap < UNK then
    match bound cap mx with
    | none => none
    | some m => match (match hi with | none => if mx.isSome then none else some (some len) | some y => bound (m.getD cap) (some y)) with
      | some (some h) => match bound h lo with
        | some l => some (.slice (some (if m.getD cap = l.getD 0 then a else a.add (l.getD 0 * size))) (h - l.getD 0) (m.getD cap - l.getD 0))
        | none => none
      | _ => none
  else none
theorem bound_run {P : Program} {y n : Nat} {x : Value} {code : BoundsCode} (h : bound y (some x) = some (some n)) (w : World) : (Instr.sliceBound x y code).run P w = .ok n w := by
  unfold bound at h
  split at h
  · rename_i hx; cases hx
  · rename_i k i hx
    cases hx
    split at h
    · rename_i hc
      simp at h
      unfold Instr.sliceBound
      simp [asIntOf, hc, h]
    · cases h
  · cases h
theorem bound_mono {y y' n : Nat} {x : Value} (h : bound y (some x) = some (some n)) (hy : y ≤ y') : bound y' (some x) = some (some n) := by
  unfold bound at h ⊢
  split at h
  · rename_i hx; cases hx
  · rename_i k i hx
    cases hx
    split at h
    · rename_i hc; rw [if_pos ⟨hc.1, by omega⟩]; exact h
    · cases h
  · cases h
theorem bound_le {y n : Nat} {x : Value} (h : bound y (some x) = some (some n)) : n ≤ y := by
  unfold bound at h
  split at h
  · rename_i hx; cases hx
  · rename_i k i hx
    cases hx
    split at h
    · rename_i hc; simp at h; omega
    · cases h
  · cases h
theorem bound_ne {y : Nat} {x : Value} : bound y (some x) ≠ some none := by
  unfold bound
  split
  · rename_i hx; cases hx
  · split <;> simp
  · simp
theorem bound_eq {φ : Inj} {y : Nat} {x x' : Value} {r : Option Nat} (h : bound y (some x) = some r) (hr : VR φ x x') : x' = x := by
  unfold bound at h
  split at h
  · rename_i hx; cases hx
  · rename_i k i hx; cases hx; cases hr; rfl
  · cases h
def BoundIs (y dflt : Nat) : Option Value → Nat → Prop
  | none, n => n = dflt
  | some x, n => bound y (some x) = some (some n)
theorem sliceBounds_run {P : Program} {len cap l h m : Nat} {lo hi mx : Option Value} (hm : BoundIs cap cap mx m) (hh : BoundIs m len hi h) (hx : hi = none → mx = none) (hl : BoundIs h 0 lo l) (w : World) :
    (Instr.sliceBounds true len cap lo hi mx).run P w = .ok (l, h, m) w := by
  unfold Instr.sliceBounds
  cases mx with
  | none =>
    cases hm
    cases hi with
    | none =>
      cases hh
      cases lo with
      | none => cases hl; simp
      | some x => simp [bound_run hl]
    | some y =>
      cases lo with
      | none => cases hl; simp [bound_run hh]
      | some x => simp [bound_run hl, bound_run hh]
  | some z =>
    cases hi with
    | none => cases hx rfl
    | some y =>
      cases lo with
      | none => cases hl; simp [bound_run hh, bound_run hm]
      | some x => simp [bound_run hl, bound_run hh, bound_run hm]
def OptR (φ : Inj) : Option Value → Option Value → Prop
  | none, none => True
  | some v, some v' => VR φ v v'
  | _, _ => False
theorem AddrR.add {φ : Inj} {a a' : Addr} (h : AddrR φ a a') (n : Nat) : AddrR φ (a.add n) (a'.add n) := by
  obtain ⟨e, he, rfl⟩ := h
  unfold Addr.add
  split
  · exact ⟨e, he, rfl⟩
  · exact ⟨e, he, rfl⟩
theorem AddrR.fixed {φ : Inj} {a : Addr} {e : Ent} (he : φ a.block = some e) : AddrR φ a { a with block := e.blk } := ⟨e, he, rfl⟩
theorem boundIs_of {y d : Nat} {x : Option Value} {r : Option Nat} (h : bound y x = some r) : BoundIs y d x (r.getD d) := by
  cases x with
  | none => simp [bound] at h; subst h; rfl
  | some v =>
    cases r with
    | none => exact absurd h bound_ne
    | some n => exact h
theorem optR_eq {φ : Inj} {y : Nat} {x x' : Option Value} {r : Option Nat} (h : bound y x = some r) (hr : OptR φ x x') : x' = x := by
  cases x with
  | none => cases x' with
    | none => rfl
    | some v => exact hr.elim
  | some v => cases x' with
    | none => exact hr.elim
    | some v' => rw [bound_eq h hr]
theorem boundIs_mono {y y' d n : Nat} {x : Option Value} (h : BoundIs y d x n) (hy : y ≤ y') : BoundIs y' d x n := by
  cases x with
  | none => exact h
  | some v => exact bound_mono h hy
theorem slice_run {P : Program} {t el : TypeId} {size : Nat} {a' : Addr} {len cap' l h m : Nat} {lo' hi' mx' : Option Value} (hu : P.underlying t = some (.slice el)) (hs : sizeT P el = some size)
    (b1 : BoundIs cap' cap' mx' m) (b2 : BoundIs m len hi' h) (b3 : hi' = none → mx' = none) (b4 : BoundIs h 0 lo' l) (w : World) :
    (Instr.slice t (.slice (some a') len cap') lo' hi' mx').run P w = .ok (.slice (some (if m = l then a' else a'.add (l * size))) (h - l) (m - l)) w := by
  unfold Instr.slice
  simp only [Sem.run_bind, underlying_eq, hu, Result.andThen_ok, sliceBounds_run b1 b2 b3 b4, sizeOf_of hs, Sem.run_pure]
  congr 2
  split <;> simp
theorem sliceV_sound {P : Program} {φ : Inj} {t el : TypeId} {size : Nat} {a : Addr} {len cap : Nat} {x' : Value} {lo hi mx lo' hi' mx' : Option Value} {v : Value} {deep : Bool}
    (hu : P.underlying t = some (.slice el)) (hs : sizeT P el = some size) (hx : VR φ (.slice (some a) len cap) x')
    (hes : deep = true → ∀ e, φ a.block = some e → e.esz = size)
    (rlo : OptR φ lo lo') (rhi : OptR φ hi hi') (rmx : OptR φ mx mx') (h : sliceV deep size a len cap lo hi mx = some v) :
    ∃ v', (∀ w, (Instr.slice t x' lo' hi' mx').run P w = .ok v' w) ∧ VR φ v v' := by
  have addr : ∀ (a' : Addr) (l : Nat) (c : Prop) [Decidable c], AddrR φ a a' → AddrR φ (if c then a else a.add (l * size)) (if c then a' else a'.add (l * size)) := by
    intro a' l c _ ha
    split
    · exact ha
    · exact ha.add _
  unfold sliceV at h
  split at h
  · rename_i hunk
    subst hunk
    cases hx with
    | slice _ _ _ _ _ hc => exact absurd rfl hc
    | sliceUnk _ e _ c he hl ht =>
      split at h
      · rename_i z
        split at h
        · rename_i m hm
          split at h
          · cases h
          · rename_i y
            split at h
            · rename_i hh hhb
              split at h
              · rename_i l hlb
                split at h
                case isFalse => cases h
                rename_i hmlt
                simp at h; subst h
                have e1 : mx' = some z := by
                  cases mx' with
                  | none => exact rmx.elim
                  | some v' => rw [bound_eq hm rmx]
                have e2 : hi' = some y := by
                  cases hi' with
                  | none => exact rhi.elim
                  | some v' => rw [bound_eq hhb rhi]
                have e3 := optR_eq hlb rlo
                subst e1 e2 e3
                have hmle := bound_le hm
                refine ⟨_, slice_run hu hs (m := m) (h := hh) (l := l.getD 0) (bound_mono hm hl) hhb (fun x => by cases x) (boundIs_of hlb), ?_⟩
                refine .slice _ _ _ _ (addr _ _ _ ⟨e, he, rfl⟩) ?_
                omega
              · cases h
            · cases h
        · cases h
      · split at h
        · cases h
        · rename_i hh hhb
          split at h
          · cases h
          · rename_i l hlb
            have e1 : mx' = none := by
              cases mx' with
              | none => rfl
              | some v' => exact rmx.elim
            have e2 := optR_eq hhb rhi
            have e3 := optR_eq hlb rlo
            subst e1 e2 e3
            have bh : BoundIs len len hi' (hh.getD len) := boundIs_of hhb
            have bl : BoundIs (hh.getD len) 0 lo' (l.getD 0) := boundIs_of hlb
            have hhle : hh.getD len ≤ len := by
              cases hi' with
              | none => simp [bound] at hhb; subst hhb; simp
              | some y => cases hh with
                | none => exact absurd hhb bound_ne
                | some n => exact bound_le hhb
            have run := slice_run (P := P) (a' := { a with block := e.blk }) (mx' := none) hu hs (m := c) (h := hh.getD len) (l := l.getD 0) rfl (boundIs_mono bh hl) (fun _ => rfl) bl
            refine ⟨_, run, ?_⟩
            split at h
            · rename_i hl0
              simp at h; subst h
              rw [hl0]
              have ea : (if c = 0 then ({ a with block := e.blk } : Addr) else ({ a with block := e.blk } : Addr).add (0 * size)) = { a with block := e.blk } := by
                split
                · rfl
                · simp [Addr.add]
              rw [ea]
              exact .sliceUnk a e _ _ he (by omega) ht
            · rename_i hl0
              split at h
              · rename_i hd
                simp at hd
                simp at h; subst h
                have hne : ¬ c = l.getD 0 := by omega
                rw [if_neg hne]
                have hadd : ({ a with block := e.blk } : Addr).add (l.getD 0 * size) = { a.add (l.getD 0 * size) with block := e.blk } := by
                  unfold Addr.add; split <;> rfl
                rw [hadd]
                refine .sliceUnk _ e _ _ ?_ (by omega) ?_
                · have : (a.add (l.getD 0 * size)).block = a.block := by unfold Addr.add; split <;> rfl
                  rw [this]; exact he
                · rw [hes hd.1 e he] at ht ⊢
                  have : (a.add (l.getD 0 * size)).off = a.off + l.getD 0 * size := by
                    unfold Addr.add
                    split
                    · rename_i h0; rw [h0]; rfl
                    · rfl
                  rw [this, Nat.sub_mul]
                  have : l.getD 0 * size ≤ c * size := Nat.mul_le_mul_right _ (by omega)
                  omega
              · cases h
  · rename_i hunk
    split at h
    · rename_i hlt
      cases hx with
      | sliceUnk => exact absurd rfl hunk
      | slice _ a' _ _ ha hc =>
        split at h
        · cases h
        · rename_i m hmb
          split at h
          · rename_i hh hhb
            split at h
            · rename_i l hlb
              simp at h; subst h
              have e1 := optR_eq hmb rmx
              have e3 := optR_eq hlb rlo
              subst e1 e3
              have bm : BoundIs cap cap mx' (m.getD cap) := boundIs_of hmb
              have bl : BoundIs hh 0 lo' (l.getD 0) := boundIs_of hlb
              have bh : BoundIs (m.getD cap) len hi' hh ∧ (hi' = none → mx' = none) := by
                split at hhb
                · split at hhb
                  · cases hhb
                  · rename_i hmn
                    simp at hhb; subst hhb
                    have : hi' = none := by
                      cases hi' with
                      | none => rfl
                      | some v' => exact rhi.elim
                    subst this
                    refine ⟨rfl, fun _ => ?_⟩
                    cases mx' with
                    | none => rfl
                    | some z => simp at hmn
                · rename_i y
                  have : hi' = some y := by
                    cases hi' with
                    | none => exact rhi.elim
                    | some v' => rw [bound_eq hhb rhi]
                  subst this
                  exact ⟨hhb, fun x => by cases x⟩
              refine ⟨_, slice_run hu hs bm bh.1 bh.2 bl, ?_⟩
              refine .slice _ _ _ _ (addr _ _ _ ha) ?_
              have hml : m.getD cap ≤ cap := by
                cases mx' with
                | none => simp [bound] at hmb; subst hmb; simp
                | some z => cases m with
                  | none => exact absurd hmb bound_ne
                  | some n => exact bound_le hmb
              omega
            · cases h
          · cases h
    · cases h
end Go.Am
namespace Go.Am
open Go
def fieldAddrV (P : Program) (s : TypeId) (x : Value) (f : Nat) : Option Value :=
  match P.underlying s, x with
  | some (.struct fs), .pointer (some a) => match fs[f]? with
    | some fd => match sizeT P fd.type with
      | some (_ + 1) => some (.pointer (some (a.add fd.offset)))
      | _ => none
    | none => none
  | _, _ => none
theorem fieldAddrV_sound {P : Program} {φ : Inj} {s : TypeId} {x x' : Value} {f : Nat} {v : Value} (hx : VR φ x x') (h : fieldAddrV P s x f = some v) :
    ∃ v', (∀ w, (Instr.fieldAt s x' f).run P w = .ok v' w) ∧ VR φ v v' := by
  unfold fieldAddrV at h
  split at h
  · rename_i fs a hu
    split at h
    · rename_i fd hf
      split at h
      · rename_i n hs
        simp at h; subst h
        cases hx with
        | ptr _ a' ha =>
          refine ⟨_, fun w => ?_, .ptr _ _ (ha.add fd.offset)⟩
          unfold Instr.fieldAt
          simp only [Sem.run_bind, underlying_eq, hu, Result.andThen_ok, hf]
          simp [Instr.sureAddr, fieldPlace, sizeOf_of hs]
      · cases h
    · cases h
  · cases h
def fieldV (P : Program) (s : TypeId) (x : Value) (f : Nat) : Option Value :=
  match P.underlying s, x with
  | some (.struct fs), .agg ⟨c⟩ => match fs[f]? with
    | some fd => partA P fd.type c fd.offset
    | none => none
  | _, _ => none
theorem fieldV_sound {P : Program} {φ : Inj} {s : TypeId} {x x' : Value} {f : Nat} {v : Value} (hx : VR φ x x') (h : fieldV P s x f = some v) :
    ∃ v', (∀ w, (Instr.field s x' f).run P w = .ok v' w) ∧ VR φ v v' := by
  unfold fieldV at h
  split at h
  · rename_i fs c hu
    split at h
    · rename_i fd hf
      cases hx with
      | agg _ c' hc =>
        obtain ⟨v', h1, h2⟩ := partA_sound hc h
        refine ⟨v', fun w => ?_, h2⟩
        unfold Instr.field
        simp [underlying_eq, hu, hf, asAgg, h1]
    · cases h
  · cases h
def indexAddrV (P : Program) (t : TypeId) (x ix : Value) : Option Value :=
  match ix with
  | .int _ i =>
    match P.underlying t, x with
    | some (.slice el), .slice (some a) len _ => if 0 ≤ i ∧ i < len then (sizeT P el).map fun n => .pointer (some (a.add (i.toNat * n))) else none
    | some (.array len el), .pointer (some a) => if 0 ≤ i ∧ i < len then (sizeT P el).map fun n => .pointer (some (a.add (i.toNat * n))) else none
    | _, _ => none
  | _ => none
theorem indexAddrV_sound {P : Program} {φ : Inj} {t : TypeId} {x x' ix ix' : Value} {v : Value} (hx : VR φ x x') (hi : VR φ ix ix') (h : indexAddrV P t x ix = some v) :
    ∃ v', (∀ w, (Instr.indexAt t x' ix').run P w = .ok v' w) ∧ VR φ v v' := by
  unfold indexAddrV at h
  split at h
  · rename_i k i
    cases hi
    split at h
    · rename_i el a len cp hu
      split at h
      · rename_i hb
        cases hs : sizeT P el with
        | none => rw [hs] at h; cases h
        | some n =>
          rw [hs] at h; simp at h; subst h
          cases hx with
          | slice _ a' _ _ ha _ =>
            refine ⟨_, fun w => ?_, .ptr _ _ (ha.add _)⟩
            unfold Instr.indexAt
            simp [asIntOf, underlying_eq, hu, hb, sizeOf_of hs]
          | sliceUnk _ e _ c he hl ht =>
            refine ⟨_, fun w => ?_, .ptr _ _ (AddrR.add (AddrR.fixed he) _)⟩
            unfold Instr.indexAt
            simp [asIntOf, underlying_eq, hu, hb, sizeOf_of hs]
      · cases h
    · rename_i len el a hu
      split at h
      · rename_i hb
        cases hs : sizeT P el with
        | none => rw [hs] at h; cases h
        | some n =>
          rw [hs] at h; simp at h; subst h
          cases hx with
          | ptr _ a' ha =>
            refine ⟨_, fun w => ?_, .ptr _ _ (ha.add _)⟩
            unfold Instr.indexAt
            simp [asIntOf, underlying_eq, hu, hb, sizeOf_of hs, Instr.sureAddr]
      · cases h
    · cases h
  · cases h
def indexV (P : Program) (t : TypeId) (x ix : Value) : Option Value :=
  match ix with
  | .int _ i =>
    match P.underlying t, x with
    | some (.array len el), .agg ⟨c⟩ => if 0 ≤ i ∧ i < len then (sizeT P el).bind fun n => partA P el c (i.toNat * n) else none
    | some .string, .string s => if 0 ≤ i then (s[i.toNat]?).map fun b => .int .u8 b.toNat else none
    | _, _ => none
  | _ => none
theorem indexV_sound {P : Program} {φ : Inj} {t : TypeId} {x x' ix ix' : Value} {v : Value} (hx : VR φ x x') (hi : VR φ ix ix') (h : indexV P t x ix = some v) :
    ∃ v', (∀ w, (Instr.index t x' ix').run P w = .ok v' w) ∧ VR φ v v' := by
  unfold indexV at h
  split at h
  · rename_i k i
    cases hi
    split at h
    · rename_i len el c hu
      split at h
      · rename_i hb
        cases hs : sizeT P el with
        | none => rw [hs] at h; cases h
        | some n =>
          rw [hs] at h; simp only [Option.bind_some] at h
          cases hx with
          | agg _ c' hc =>
            obtain ⟨v', h1, h2⟩ := partA_sound hc h
            refine ⟨v', fun w => ?_, h2⟩
            unfold Instr.index
            simp [asIntOf, underlying_eq, hu, hb, sizeOf_of hs, h1]
      · cases h
    · rename_i s hu
      split at h
      · rename_i hb
        cases hg : s[i.toNat]? with
        | none => rw [hg] at h; cases h
        | some b =>
          rw [hg] at h; simp at h; subst h
          cases hx
          refine ⟨_, fun w => ?_, .int _ _⟩
          unfold Instr.index
          simp [asIntOf, underlying_eq, hu, hb, hg]
      · cases h
    · cases h
  · cases h
def typeAssertV (P : Program) (x : Value) (_xt t : TypeId) (ok : Bool) : Option Value :=
  let holds (v : Value) : Value := if ok then .tuple ⟨[v, .bool true]⟩ else v
  let fails : Option Value := if ok then ((P.info? t).bind (·.zero)).bind fun z => if plain 2 z then some (.tuple ⟨[z, .bool false]⟩) else none else none
  match P.underlying t, x with
  | some (.interface _), .nilIface => fails
  | some (.interface want), .iface d v => match P.info? d with
    | some i => if hasAll want i.methods then some (holds (.iface d v)) else fails
    | none => none
  | some _, .nilIface => fails
  | some _, .iface d v => if d = t then some (holds v) else fails
  | _, _ => none
theorem zeroValue_of {P : Program} {t : TypeId} {z : Value} (h : (P.info? t).bind (·.zero) = some z) (w : World) : (zeroValue t).run P w = .ok z w := by
  unfold zeroValue
  simp only [Sem.run_bind, typeInfo_eq]
  cases hi : P.info? t with
  | none => rw [hi] at h; cases h
  | some i => rw [hi] at h; simp at h; simp [h]
theorem typeAssertV_sound {P : Program} {φ : Inj} {xt t : TypeId} {ok : Bool} {x x' : Value} {v : Value} (hx : VR φ x x') (h : typeAssertV P x xt t ok = some v) :
    ∃ v', (∀ w, (Instr.typeAssert x' xt t ok).run P w = .ok v' w) ∧ VR φ v v' := by
  have fails : (if ok then ((P.info? t).bind (·.zero)).bind fun z => if plain 2 z then some (Value.tuple ⟨[z, .bool false]⟩) else none else none) = some v →
      ok = true ∧ ∃ z, (P.info? t).bind (·.zero) = some z ∧ v = .tuple ⟨[z, .bool false]⟩ ∧ VR φ v v := by
    intro hf
    split at hf
    · rename_i hok
      cases hz : (P.info? t).bind (·.zero) with
      | none => rw [hz] at hf; cases hf
      | some z =>
        rw [hz] at hf; simp only [Option.bind_some] at hf
        split at hf
        · rename_i hp
          simp at hf; subst hf
          exact ⟨hok, z, rfl, rfl, .tuple _ _ (.cons _ _ _ _ (VR.of_plain 2 z hp) (.cons _ _ _ _ (.bool _) .nil))⟩
        · cases hf
    · cases hf
  have holdsR : ∀ y y' : Value, VR φ y y' → VR φ (if ok then .tuple ⟨[y, .bool true]⟩ else y) (if ok then .tuple ⟨[y', .bool true]⟩ else y') := by
    intro y y' hy
    split
    · exact .tuple _ _ (.cons _ _ _ _ hy (.cons _ _ _ _ (.bool _) .nil))
    · exact hy
  unfold typeAssertV at h
  simp only [] at h
  split at h
  · rename_i hu
    cases hx
    obtain ⟨hok, z, hz, rfl, hr⟩ := fails h
    subst hok
    refine ⟨_, fun w => ?_, hr⟩
    unfold Instr.typeAssert
    simp [underlying_eq, hu, zeroValue_of hz]
  · rename_i want d y hu
    split at h
    · rename_i i hi
      cases hx with
      | iface _ _ y' hy =>
        split at h
        · rename_i ha
          simp at h; subst h
          refine ⟨_, fun w => ?_, holdsR _ _ (.iface d _ _ hy)⟩
          unfold Instr.typeAssert
          simp [underlying_eq, hu, typeInfo_eq, hi, missing_none ha]
        · rename_i ha
          obtain ⟨hok, z, hz, rfl, hr⟩ := fails h
          subst hok
          obtain ⟨m, hm⟩ := missing_some (by simpa using ha : hasAll want i.methods = false)
          refine ⟨_, fun w => ?_, hr⟩
          unfold Instr.typeAssert
          simp [underlying_eq, hu, typeInfo_eq, hi, hm, zeroValue_of hz]
    · cases h
  · rename_i d hni hu
    cases hx
    obtain ⟨hok, z, hz, rfl, hr⟩ := fails h
    subst hok
    refine ⟨_, fun w => ?_, hr⟩
    unfold Instr.typeAssert
    simp only [Sem.run_bind, underlying_eq, hu, Result.andThen_ok]
    cases d <;> first | exact (hni _ hu).elim | simp [zeroValue_of hz]
  · rename_i dd d y hni hu
    cases hx with
    | iface _ _ y' hy =>
      split at h
      · rename_i hdt
        simp at h; subst h
        refine ⟨_, fun w => ?_, holdsR _ _ hy⟩
        unfold Instr.typeAssert
        simp only [Sem.run_bind, underlying_eq, hu, Result.andThen_ok]
        cases dd <;> first | exact (hni _ hu).elim | simp [hdt]
      · rename_i hdt
        obtain ⟨hok, z, hz, rfl, hr⟩ := fails h
        subst hok
        refine ⟨_, fun w => ?_, hr⟩
        unfold Instr.typeAssert
        simp only [Sem.run_bind, underlying_eq, hu, Result.andThen_ok]
        cases dd <;> first | exact (hni _ hu).elim | simp [hdt, zeroValue_of hz]
  · cases h
theorem VRs.toArr {φ : Inj} {c c' : Array Value} (h : VRs φ c.toList c'.toList) : c.size = c'.size := by simpa using h.length
theorem fold_set {φ : Inj} (off : Nat) : ∀ (l l' : List Value) (j : Nat) (cs cs' : Array Value), VRs φ l l' → VRs φ cs.toList cs'.toList →
    VRs φ ((l.zipIdx j).foldl (fun (cs : Array Value) (x : Value × Nat) => cs.setIfInBounds (off + x.2) x.1) cs).toList ((l'.zipIdx j).foldl (fun (cs : Array Value) (x : Value × Nat) => cs.setIfInBounds (off + x.2) x.1) cs').toList
  | _, _, _, _, _, .nil, h => by simpa using h
  | _, _, j, cs, cs', .cons v v' l l' hv hl, h => by
    simp only [List.zipIdx_cons, List.foldl_cons]
    refine fold_set off l l' (j + 1) _ _ hl ?_
    rw [Array.toList_setIfInBounds, Array.toList_setIfInBounds]
    exact h.set _ hv
inductive PartsR (φ : Inj) : List (Nat × Value) → List (Nat × Value) → Prop
  | nil : PartsR φ [] []
  | cons (i : Nat) (v v' : Value) (l l' : List (Nat × Value)) (h : VR φ v v') (hl : PartsR φ l l') : PartsR φ ((i, v) :: l) ((i, v') :: l')
theorem fill_sound {φ : Inj} (place : Nat → Option (Nat × Nat)) : ∀ {ps ps' : List (Nat × Value)} {cs cs' r : Array Value}, PartsR φ ps ps' → VRs φ cs.toList cs'.toList → Instr.fill place cs ps = some r →
    ∃ r', Instr.fill place cs' ps' = some r' ∧ VRs φ r.toList r'.toList
  | _, _, cs, cs', r, .nil, hc, h => by
    simp [Instr.fill] at h; subst h
    exact ⟨cs', rfl, hc⟩
  | _, _, cs, cs', r, .cons i v v' l l' hv hl, hc, h => by
    simp only [Instr.fill] at h ⊢
    split at h
    · cases h
    · rename_i off size hp
      have hz : v'.cells.size = v.cells.size := ((VRs.cells hv).toArr).symm
      have hz2 := hc.toArr
      rw [hz, ← hz2]
      split at h
      · cases h
      · rename_i hne
        rw [if_neg hne]
        refine fill_sound place hl ?_ h
        have := fold_set off v.cells.toList v'.cells.toList 0 cs cs' (VRs.cells hv) hc
        rw [← Array.foldl_toList, ← Array.foldl_toList]
        simpa only [Array.toList_zipIdx] using this
def partsO (ρ : Operand → Option Value) : List (Nat × Operand) → Option (List (Nat × Value))
  | [] => some []
  | (i, x) :: l => match ρ x, partsO ρ l with
    | some y, some r => some ((i, y) :: r)
    | _, _ => none
theorem partsO_sound {φ : Inj} {ρ : Operand → Option Value} {ρ' : Operand → Value} (hρ : ∀ x v, ρ x = some v → VR φ v (ρ' x)) : ∀ {l : List (Nat × Operand)} {vs : List (Nat × Value)}, partsO ρ l = some vs →
    PartsR φ vs (l.map fun (i, x) => (i, ρ' x))
  | [], _, h => by simp [partsO] at h; subst h; exact .nil
  | (i, x) :: l, vs, h => by
    simp only [partsO] at h
    split at h
    · rename_i y r hy hr
      simp at h; subst h
      exact .cons i _ _ _ _ (hρ x y hy) (partsO_sound hρ hr)
    · cases h
def placesOf (P : Program) (fs : Array Field) : Option (List (Nat × Nat)) := mapO (fun f : Field => (sizeT P f.type).map fun n => (f.offset, n)) fs.toList
theorem places_run {P : Program} : ∀ {l : List Field} {r : List (Nat × Nat)} (w : World), mapO (fun f : Field => (sizeT P f.type).map fun n => (f.offset, n)) l = some r →
    (l.mapM fun f => (do pure (f.offset, ← sizeOf f.type) : Sem (Nat × Nat))).run P w = .ok r w
  | [], r, w, h => by simp [mapO] at h; subst h; rfl
  | f :: l, r, w, h => by
    simp only [mapO] at h
    split at h
    · rename_i y s hy hs
      simp at h; subst h
      cases hz : sizeT P f.type with
      | none => rw [hz] at hy; cases hy
      | some n =>
        rw [hz] at hy; simp at hy; subst hy
        rw [List.mapM_cons]
        simp only [Sem.run_bind, sizeOf_of hz, Result.andThen_ok, Sem.run_pure, places_run w hs]
    · cases h
def buildV (P : Program) (t : TypeId) (parts : List (Nat × Value)) : Option Value :=
  match (P.info? t).bind (·.zero) with
  | none => none
  | some z =>
    if z.cells.toList.all (plain 1) then
      match P.underlying t with
      | some (.struct fs) => match placesOf P fs with
        | some pl => (Instr.fill (fun i => pl[i]?) z.cells parts).map .agg
        | none => none
      | some (.array _ el) => match sizeT P el with
        | some n => (Instr.fill (fun i => some (i * n, n)) z.cells parts).map .agg
        | none => none
      | _ => none
    else none
theorem buildV_sound {P : Program} {φ : Inj} {t : TypeId} {ps ps' : List (Nat × Value)} {v : Value} (hp : PartsR φ ps ps') (h : buildV P t ps = some v) :
    ∃ v', (∀ w, (Instr.build t ⟨ps'⟩).run P w = .ok v' w) ∧ VR φ v v' := by
  unfold buildV at h
  split at h
  · cases h
  · rename_i z hz
    split at h
    · rename_i hpl
      have hzz : VRs φ z.cells.toList z.cells.toList := VRs.plain_of (fun v hv => VR.of_plain 1 v hv) _ hpl
      split at h
      · rename_i fs hu
        split at h
        · rename_i pl hpl2
          cases hf : Instr.fill (fun i => pl[i]?) z.cells ps with
          | none => rw [hf] at h; cases h
          | some r =>
            rw [hf] at h; simp at h; subst h
            obtain ⟨r', h1, h2⟩ := fill_sound _ hp hzz hf
            refine ⟨.agg r', fun w => ?_, .agg _ _ h2⟩
            unfold Instr.build
            have hm : (fs.mapM fun f => (do pure (f.offset, ← sizeOf f.type) : Sem (Nat × Nat))).run P w = .ok pl.toArray w := by
              rw [Array.mapM_eq_mapM_toList]
              simp only [Sem.run_map]
              rw [places_run w hpl2]
              rfl
            simp only [Sem.run_bind, zeroValue_of hz, Result.andThen_ok, underlying_eq, hu, hm]
            have e : (fun i : Nat => pl.toArray[i]?) = fun i : Nat => pl[i]? := by funext i; simp
            simp [h1]
        · cases h
      · rename_i n el hu
        split at h
        · rename_i n hs
          cases hf : Instr.fill (fun i => some (i * n, n)) z.cells ps with
          | none => rw [hf] at h; cases h
          | some r =>
            rw [hf] at h; simp at h; subst h
            obtain ⟨r', h1, h2⟩ := fill_sound _ hp hzz hf
            refine ⟨.agg r', fun w => ?_, .agg _ _ h2⟩
            unfold Instr.build
            simp [zeroValue_of hz, underlying_eq, hu, sizeOf_of hs, h1]
        · cases h
      · cases h
    · cases h
end Go.Am
namespace Go.Am
open Go
def lim : IntKind → Nat
  | .i8 => 128
  | .i16 => 32768
  | .i32 => 2147483648
  | .i64 => 9223372036854775808
  | .u8 => 256
  | .u16 => 65536
  | .u32 => 4294967296
  | .u64 => 18446744073709551616
def isS : IntKind → Bool
  | .i8 | .i16 | .i32 | .i64 => true
  | _ => false
def wrapF (k : IntKind) (n : Int) : Int :=
  match n with
  | .ofNat m => match Nat.blt m (lim k) with
    | true => .ofNat m
    | false => k.wrap (.ofNat m)
  | .negSucc m => match isS k && Nat.blt m (lim k) with
    | true => .negSucc m
    | false => k.wrap (.negSucc m)
theorem wrap_nonneg (k : IntKind) {n : Int} (h0 : 0 ≤ n) (h : n < lim k) : k.wrap n = n := by
  cases k <;> simp only [lim] at h
  case i8 => have e : n % 2 ^ 8 = n := Int.emod_eq_of_lt h0 (by omega)
             simp only [IntKind.wrap, IntKind.signed, IntKind.bits, e]; rw [if_neg (by simp; omega)]
  case i16 => have e : n % 2 ^ 16 = n := Int.emod_eq_of_lt h0 (by omega)
              simp only [IntKind.wrap, IntKind.signed, IntKind.bits, e]; rw [if_neg (by simp; omega)]
  case i32 => have e : n % 2 ^ 32 = n := Int.emod_eq_of_lt h0 (by omega)
              simp only [IntKind.wrap, IntKind.signed, IntKind.bits, e]; rw [if_neg (by simp; omega)]
  case i64 => have e : n % 2 ^ 64 = n := Int.emod_eq_of_lt h0 (by omega)
              simp only [IntKind.wrap, IntKind.signed, IntKind.bits, e]; rw [if_neg (by simp; omega)]
  case u8 => have e : n % 2 ^ 8 = n := Int.emod_eq_of_lt h0 (by omega)
             simp only [IntKind.wrap, IntKind.signed, IntKind.bits, e]; simp
  case u16 => have e : n % 2 ^ 16 = n := Int.emod_eq_of_lt h0 (by omega)
              simp only [IntKind.wrap, IntKind.signed, IntKind.bits, e]; simp
  case u32 => have e : n % 2 ^ 32 = n := Int.emod_eq_of_lt h0 (by omega)
              simp only [IntKind.wrap, IntKind.signed, IntKind.bits, e]; simp
  case u64 => have e : n % 2 ^ 64 = n := Int.emod_eq_of_lt h0 (by omega)
              simp only [IntKind.wrap, IntKind.signed, IntKind.bits, e]; simp
theorem wrap_neg (k : IntKind) (hk : isS k = true) {n : Int} (h0 : n < 0) (h : -(lim k : Int) ≤ n) : k.wrap n = n := by
  cases k <;> simp only [isS, Bool.false_eq_true] at hk <;> simp only [lim] at h
  case i8 => have e : n % 2 ^ 8 = n + 2 ^ 8 := by omega
             simp only [IntKind.wrap, IntKind.signed, IntKind.bits, e]; rw [if_pos (by simp; omega)]; omega
  case i16 => have e : n % 2 ^ 16 = n + 2 ^ 16 := by omega
              simp only [IntKind.wrap, IntKind.signed, IntKind.bits, e]; rw [if_pos (by simp; omega)]; omega
  case i32 => have e : n % 2 ^ 32 = n + 2 ^ 32 := by omega
              simp only [IntKind.wrap, IntKind.signed, IntKind.bits, e]; rw [if_pos (by simp; omega)]; omega
  case i64 => have e : n % 2 ^ 64 = n + 2 ^ 64 := by omega
              simp only [IntKind.wrap, IntKind.signed, IntKind.bits, e]; rw [if_pos (by simp; omega)]; omega
theorem wrapF_eq (k : IntKind) (n : Int) : wrapF k n = k.wrap n := by
  unfold wrapF
  split
  · rename_i m
    split
    · rename_i h
      have hlt : m < lim k := by simpa using h
      exact (wrap_nonneg k (n := Int.ofNat m) (by simp) (by simpa using hlt)).symm
    · rfl
  · rename_i m
    split
    · rename_i h
      simp only [Bool.and_eq_true] at h
      have hlt : m < lim k := by simpa using h.2
      exact (wrap_neg k h.1 (n := Int.negSucc m) (by omega) (by omega)).symm
    · rfl
def eqI : Int → Int → Bool
  | .ofNat a, .ofNat b => Nat.beq a b
  | .negSucc a, .negSucc b => Nat.beq a b
  | _, _ => false
theorem eqI_eq (a b : Int) : eqI a b = (a == b) := by
  rw [Bool.eq_iff_iff, beq_iff_eq]
  cases a <;> cases b <;> simp [eqI, Nat.beq_eq] <;> omega
def ltI : Int → Int → Bool
  | .ofNat a, .ofNat b => Nat.blt a b
  | .negSucc a, .negSucc b => Nat.blt b a
  | .negSucc _, .ofNat _ => true
  | .ofNat _, .negSucc _ => false
theorem ltI_eq (a b : Int) : ltI a b = decide (a < b) := by
  rw [Bool.eq_iff_iff, decide_eq_true_iff]
  cases a <;> cases b <;> simp [ltI] <;> omega
def leI (a b : Int) : Bool := match ltI b a with | true => false | false => true
theorem leI_eq (a b : Int) : leI a b = decide (a ≤ b) := by
  unfold leI
  have := ltI_eq b a
  cases h : ltI b a <;> rw [h] at this <;> simp at this ⊢ <;> omega
def intF (op : BinOp) (k : IntKind) (a b : Int) : Option Value :=
  match op with
  | .add => some (.int k (wrapF k (Int.add a b)))
  | .sub => some (.int k (wrapF k (Int.sub a b)))
  | .mul => some (.int k (wrapF k (Int.mul a b)))
  | .eql => some (.bool (eqI a b))
  | .neq => some (.bool (match eqI a b with | true => false | false => true))
  | .lss => some (.bool (ltI a b))
  | .leq => some (.bool (leI a b))
  | .gtr => some (.bool (ltI b a))
  | .geq => some (.bool (leI b a))
  | _ => none
theorem intF_run {P : Program} {op : BinOp} {t : TypeId} {x y : Operand} {k : IntKind} {a b : Int} {v : Value} (h : intF op k a b = some v) (w : World) :
    (do eqGuard op t x y (.int k a) (.int k b); binOp op t (.int k a) (.int k b) : Sem Value).run P w = .ok v w := by
  have hg : eqGuard op t x y (.int k a) (.int k b) = pure () := by cases op <;> rfl
  rw [hg]
  cases op <;> simp only [intF, Option.some.injEq, reduceCtorEq] at h <;> subst h <;>
    simp [binOp, Op.intArith, Op.intCmp, wrapF_eq, eqI_eq, ltI_eq, leI_eq]
  all_goals first
    | rfl
    | (cases h : (a == b) <;> simp_all [bne])
end Go.Am
namespace Go.Am
open Go
def builtinV (P : Program) (b : Builtin) (argTypes : Array TypeId) (type : TypeId) (vs : List Value) : Option Value :=
  match b with
  | .len => match argTypes[0]?, vs with
    | some t, [.slice _ n _] => match P.underlying t with
      | some (.slice _) => some (goInt n)
      | _ => none
    | some t, [.string s] => match P.underlying t with
      | some .string => some (goInt s.size)
      | _ => none
    | _, _ => none
  | .cap => match argTypes[0]?, vs with
    | some t, [.slice _ _ c] => match P.underlying t with
      | some (.slice _) => if c = UNK then none else some (goInt c)
      | _ => none
    | _, _ => none
  | .min => if vs.all (plain 0) then (pureV P (Builtin.min_ argTypes type ⟨vs⟩)).bind fun v => if plain 0 v then some v else none else none
  | .max => if vs.all (plain 0) then (pureV P (Builtin.max_ argTypes type ⟨vs⟩)).bind fun v => if plain 0 v then some v else none else none
  | _ => none
theorem builtinV_sound {P : Program} {φ : Inj} {b : Builtin} {ats : Array TypeId} {ty : TypeId} {cs : Array Bool} {vs vs' : List Value} {v : Value} (hv : VRs φ vs vs') (h : builtinV P b ats ty vs = some v) :
    ∃ v', (∀ w, (builtin b ats ty cs ⟨vs'⟩).run P w = .ok (.value v') w) ∧ VR φ v v' := by
  unfold builtinV at h
  split at h
  · split at h
    · rename_i t a n c ht
      split at h
      · rename_i e hu
        simp at h; subst h
        cases hv with
        | cons _ y _ _ hy hl =>
          cases hl
          refine ⟨goInt n, fun w => ?_, .int _ _⟩
          cases hy <;> simp [builtin, Builtin.len_, ht, underlying_eq, hu]
      · cases h
    · rename_i t s ht
      split at h
      · rename_i hu
        simp at h; subst h
        cases hv with
        | cons _ y _ _ hy hl =>
          cases hl
          refine ⟨goInt s.size, fun w => ?_, .int _ _⟩
          cases hy; simp [builtin, Builtin.len_, ht, underlying_eq, hu]
      · cases h
    · cases h
  · split at h
    · rename_i t a n c ht
      split at h
      · rename_i e hu
        split at h
        · cases h
        · rename_i hc
          simp at h; subst h
          cases hv with
          | cons _ y _ _ hy hl =>
            cases hl
            refine ⟨goInt c, fun w => ?_, .int _ _⟩
            cases hy with
            | sliceUnk => exact absurd rfl hc
            | sliceNil => simp [builtin, Builtin.cap_, ht, underlying_eq, hu]
            | slice => simp [builtin, Builtin.cap_, ht, underlying_eq, hu]
      · cases h
    · cases h
  · split at h
    · rename_i hp
      have e : vs' = vs := VRs.eq_of_plain (fun v v' hv hr => VR.eq_of_plain 0 v v' hv hr) hp hv
      subst e
      cases hm : pureV P (Builtin.min_ ats ty ⟨vs'⟩) with
      | none => rw [hm] at h; cases h
      | some r =>
        rw [hm] at h; simp only [Option.bind_some] at h
        split at h
        · rename_i hpr
          simp at h; subst h
          refine ⟨r, fun w => ?_, VR.of_plain 0 r hpr⟩
          simp [builtin, pureV_run hm]
        · cases h
    · cases h
  · split at h
    · rename_i hp
      have e : vs' = vs := VRs.eq_of_plain (fun v v' hv hr => VR.eq_of_plain 0 v v' hv hr) hp hv
      subst e
      cases hm : pureV P (Builtin.max_ ats ty ⟨vs'⟩) with
      | none => rw [hm] at h; cases h
      | some r =>
        rw [hm] at h; simp only [Option.bind_some] at h
        split at h
        · rename_i hpr
          simp at h; subst h
          refine ⟨r, fun w => ?_, VR.of_plain 0 r hpr⟩
          simp [builtin, pureV_run hm]
        · cases h
    · cases h
  · cases h
def sliceOpV (P : Program) (ρ : Operand → Option Value) (deep : Bool) (t : TypeId) (x : Operand) (lo hi mx : Option Operand) : Option Value :=
  match ρ x, optO ρ lo, optO ρ hi, optO ρ mx with
  | some (.slice (some a) len cap), some l, some h, some m => match P.underlying t with
    | some (.slice el) => match sizeT P el with
      | some n => sliceV deep n a len cap l h m
      | none => none
    | _ => none
  | some (.slice none len cap), some l, some h, some m => match P.underlying t with
    | some (.slice el) => match sizeT P el with
      | some n => match bound cap m with
        | none => none
        | some mm => match (match h with | none => if m.isSome then none else some (some len) | some y => bound (mm.getD cap) (some y)) with
          | some (some hh) => match bound hh l with
            | some ll => some (.slice none (hh - ll.getD 0) (mm.getD cap - ll.getD 0))
            | none => none
          | _ => none
      | none => none
    | _ => none
  | some (.string s), some l, some h, some none => match P.underlying t with
    | some .string => match bound s.size h with
      | none => none
      | some hh => match bound (hh.getD s.size) l with
        | some ll => some (.string (s.extract (ll.getD 0) (hh.getD s.size)))
        | none => none
    | _ => none
  | _, _, _, _ => none
theorem optO_sound {φ : Inj} {ρ : Operand → Option Value} {ρ' : Operand → Value} (hρ : ∀ x v, ρ x = some v → VR φ v (ρ' x)) {x : Option Operand} {r : Option Value} (h : optO ρ x = some r) : OptR φ r (x.map ρ') := by
  cases x with
  | none => simp [optO] at h; subst h; trivial
  | some x =>
    simp only [optO] at h
    cases hx : ρ x with
    | none => rw [hx] at h; cases h
    | some v => rw [hx] at h; simp at h; subst h; exact hρ x v hx
theorem sliceNil_run {P : Program} {t el : TypeId} {size : Nat} {len cap' l h m : Nat} {lo' hi' mx' : Option Value} (hu : P.underlying t = some (.slice el)) (hs : sizeT P el = some size)
    (b1 : BoundIs cap' cap' mx' m) (b2 : BoundIs m len hi' h) (b3 : hi' = none → mx' = none) (b4 : BoundIs h 0 lo' l) (w : World) :
    (Instr.slice t (.slice none len cap') lo' hi' mx').run P w = .ok (.slice none (h - l) (m - l)) w := by
  unfold Instr.slice
  simp only [Sem.run_bind, underlying_eq, hu, Result.andThen_ok, sliceBounds_run b1 b2 b3 b4, sizeOf_of hs, Sem.run_pure]
  congr 2
  split <;> simp
theorem boundsStr_run {P : Program} {n l h : Nat} {lo hi : Option Value} (hh : BoundIs n n hi h) (hl : BoundIs h 0 lo l) (w : World) :
    (Instr.sliceBounds false n n lo hi none).run P w = .ok (l, h, n) w := by
  unfold Instr.sliceBounds
  cases hi with
  | none =>
    cases hh
    cases lo with
    | none => cases hl; simp
    | some x => simp [bound_run hl]
  | some y =>
    cases lo with
    | none => cases hl; simp [bound_run hh]
    | some x => simp [bound_run hl, bound_run hh]
theorem sliceAt_slice {P : Program} {t el : TypeId} {x : Value} {lo hi mx : Option Value} (hu : P.underlying t = some (.slice el)) (w : World) : (Instr.sliceAt t x lo hi mx).run P w = (Instr.slice t x lo hi mx).run P w := by
  unfold Instr.sliceAt
  simp [underlying_eq, hu]
theorem sliceOpV_sound {P : Program} {φ : Inj} {ρ : Operand → Option Value} {ρ' : Operand → Value} {deep : Bool} (hρ : ∀ x v, ρ x = some v → VR φ v (ρ' x)) {t : TypeId} {x : Operand} {lo hi mx : Option Operand} {v : Value}
    (hes : deep = true → ∀ el n, P.underlying t = some (.slice el) → sizeT P el = some n → ∀ a l c, ρ x = some (.slice (some a) l c) → ∀ e, φ a.block = some e → e.esz = n)
    (h : sliceOpV P ρ deep t x lo hi mx = some v) :
    ∃ v', (∀ w, (Instr.sliceAt t (ρ' x) (lo.map ρ') (hi.map ρ') (mx.map ρ')).run P w = .ok v' w) ∧ VR φ v v' := by
  unfold sliceOpV at h
  split at h
  · rename_i a len cap l hh m hx hl hhi hm
    split at h
    · rename_i el hu
      split at h
      · rename_i n hs
        obtain ⟨v', h1, h2⟩ := sliceV_sound hu hs (hρ x _ hx) (fun hd => hes hd el n hu hs a len cap hx) (optO_sound hρ hl) (optO_sound hρ hhi) (optO_sound hρ hm) h
        exact ⟨v', fun w => by rw [sliceAt_slice hu]; exact h1 w, h2⟩
      · cases h
    · cases h
  · rename_i len cap l hh m hx hl hhi hm
    have rl := optO_sound hρ hl
    have rh := optO_sound hρ hhi
    have rm := optO_sound hρ hm
    have rx := hρ x _ hx
    generalize lo.map ρ' = lo' at *
    generalize hi.map ρ' = hi' at *
    generalize mx.map ρ' = mx' at *
    split at h
    · rename_i el hu
      split at h
      · rename_i n hs
        split at h
        · cases h
        · rename_i mm hmb
          split at h
          · rename_i hv hhb
            split at h
            · rename_i ll hlb
              simp at h; subst h
              have e1 := optR_eq hmb rm
              have e3 := optR_eq hlb rl
              subst e1 e3
              have bh : BoundIs (mm.getD cap) len hi' hv ∧ (hi' = none → mx' = none) := by
                split at hhb
                · split at hhb
                  · cases hhb
                  · rename_i hmn
                    simp at hhb; subst hhb
                    have : hi' = none := by
                      cases hi' with
                      | none => rfl
                      | some v' => exact rh.elim
                    subst this
                    refine ⟨rfl, fun _ => ?_⟩
                    cases mx' with
                    | none => rfl
                    | some z => simp at hmn
                · rename_i y
                  have : hi' = some y := by
                    cases hi' with
                    | none => exact rh.elim
                    | some v' => rw [bound_eq hhb rh]
                  subst this
                  exact ⟨hhb, fun x => by cases x⟩
              generalize hρx : ρ' x = x' at *
              cases rx
              exact ⟨_, fun w => by rw [sliceAt_slice hu]; exact sliceNil_run hu hs (boundIs_of hmb) bh.1 bh.2 (boundIs_of hlb) w, .sliceNil _ _⟩
            · cases h
          · cases h
      · cases h
    · cases h
  · rename_i s l hh hx hl hhi hm
    have rl := optO_sound hρ hl
    have rh := optO_sound hρ hhi
    have rm := optO_sound hρ hm
    have rx := hρ x _ hx
    generalize lo.map ρ' = lo' at *
    generalize hi.map ρ' = hi' at *
    generalize mx.map ρ' = mx' at *
    split at h
    · rename_i hu
      split at h
      · cases h
      · rename_i hv hhb
        split at h
        · rename_i ll hlb
          simp at h; subst h
          have e1 : mx' = none := by
            cases mx' with
            | none => rfl
            | some v' => exact rm.elim
          have e2 := optR_eq hhb rh
          have e3 := optR_eq hlb rl
          subst e1 e2 e3
          generalize hρx : ρ' x = x' at *
          cases rx
          refine ⟨_, fun w => ?_, .string _⟩
          unfold Instr.sliceAt
          simp only [Sem.run_bind, underlying_eq, hu, Result.andThen_ok]
          unfold Instr.slice
          simp [underlying_eq, hu, boundsStr_run (boundIs_of hhb) (boundIs_of hlb)]
        · cases h
    · cases h
  · cases h
def kIdx : IntKind → Nat
  | .i8 => 0 | .i16 => 1 | .i32 => 2 | .i64 => 3 | .u8 => 4 | .u16 => 5 | .u32 => 6 | .u64 => 7
theorem kIdx_eq {k l : IntKind} (h : Nat.beq (kIdx k) (kIdx l) = true) : k = l := by
  cases k <;> cases l <;> first | rfl | (simp [kIdx] at h)
def execV (P : Program) (ρ : Operand → Option Value) (o : Oper) : Option Value :=
  match o.op with
  | .move x | .assign x => ρ x
  | .pick c a b => match ρ c with
    | some (.bool t) => if t then ρ a else ρ b
    | _ => none
  | .nilCheck x => match ρ x with
    | some (.pointer (some a)) => some (.pointer (some a))
    | some (.iface t v) => some (.iface t v)
    | some (.func (.func f) b c) => some (.func (.func f) b c)
    | _ => none
  | .makeInterface t x => match P.underlying t with
    | some (.interface _) | none => none
    | some _ => (ρ x).map (.iface t)
  | .makeFunc (.func f) b c => match mapO ρ b.toList, mapO ρ c.toList with
    | some b, some c => some (.func (.func f) ⟨b⟩ ⟨c⟩)
    | _, _ => none
  | .extract x i => match ρ x with
    | some (.tuple ⟨l⟩) => l[i]?
    | _ => none
  | .field t x f => (ρ x).bind fun v => fieldV P t v f
  | .fieldAddr t x f => (ρ x).bind fun v => fieldAddrV P t v f
  | .index t x i => match ρ x, ρ i with
    | some v, some j => indexV P t v j
    | _, _ => none
  | .indexAddr t x i => match ρ x, ρ i with
    | some v, some j => indexAddrV P t v j
    | _, _ => none
  | .slice t x lo hi mx => sliceOpV P ρ false t x lo hi mx
  | .binOp op t x y _ => match ρ x, ρ y with
    | some (.int k a), some (.int k' b) => match Nat.beq (kIdx k) (kIdx k'), intF op k a b with
      | true, some v => some v
      | _, _ => (pureV P (do eqGuard op t x y (.int k a) (.int k' b); binOp op t (.int k a) (.int k' b))).bind fun v => if plain 0 v then some v else none
    | some a, some b =>
      if plain 2 a && plain 2 b then (pureV P (do eqGuard op t x y a b; binOp op t a b)).bind fun v => if plain 0 v then some v else none
      else eqlV P op t a b
    | _, _ => none
  | .unOp op _ x => match ρ x with
    | some a => if plain 0 a then (pureV P (Op.unary op a)).bind fun v => if plain 0 v then some v else none else none
    | none => none
  | .convert s d x => match ρ x with
    | some (.int _ n) => match P.underlying s, P.underlying d with
      | some _, some (.int k) => some (.int k (wrapF k n))
      | _, some .string => none
      | _, _ => none
    | some a => if plain 0 a then (pureV P (convert s d a)).bind fun v => if plain 0 v then some v else none else none
    | none => none
  | .typeAssert x xt t ok => (ρ x).bind fun v => typeAssertV P v xt t ok
  | .build t ps => (partsO ρ ps.toList).bind fun l => buildV P t l
  | .call { callee := .builtin b, args, argTypes } => (mapO ρ args.toList).bind fun vs => builtinV P b argTypes o.type vs
  | _ => none
theorem execV_sound {P : Program} {φ : Inj} {ρ : Operand → Option Value} {ρ' : Operand → Value} (hρ : ∀ x v, ρ x = some v → VR φ v (ρ' x)) {o : Oper} {v : Value} (h : execV P ρ o = some v) :
    ∃ v', (∀ w, (execOp ρ' o).run P w = .ok (.value v') w) ∧ VR φ v v' := by
  obtain ⟨dst, op, type, pos, after, guard⟩ := o
  cases op <;> simp only [execV] at h <;> try (cases h; done)
  case move x => exact ⟨ρ' x, fun w => by simp [execOp], hρ x v h⟩
  case assign x => exact ⟨ρ' x, fun w => by simp [execOp], hρ x v h⟩
  case pick c a b =>
    split at h
    · rename_i t hc
      have hcr := hρ c _ hc
      generalize hc' : ρ' c = c' at *
      cases hcr
      split at h
      · rename_i ht; subst ht
        exact ⟨ρ' a, fun w => by simp [execOp, asBool, hc'], hρ a v h⟩
      · rename_i ht
        have : t = false := by simpa using ht
        subst this
        exact ⟨ρ' b, fun w => by simp [execOp, asBool, hc'], hρ b v h⟩
    · cases h
  case nilCheck x =>
    split at h
    · rename_i a hx
      simp at h; subst h
      have hr := hρ x _ hx
      generalize hx' : ρ' x = x' at *
      refine ⟨x', fun w => ?_, hr⟩
      cases hr; simp [execOp, hx']
    · rename_i t y hx
      simp at h; subst h
      have hr := hρ x _ hx
      generalize hx' : ρ' x = x' at *
      refine ⟨x', fun w => ?_, hr⟩
      cases hr; simp [execOp, hx']
    · rename_i f b c hx
      simp at h; subst h
      have hr := hρ x _ hx
      generalize hx' : ρ' x = x' at *
      refine ⟨x', fun w => ?_, hr⟩
      cases hr; simp [execOp, hx']
    · cases h
  case makeInterface t x =>
    split at h
    · cases h
    · cases h
    · rename_i d hni hu
      cases hx : ρ x with
      | none => rw [hx] at h; cases h
      | some y =>
        rw [hx] at h; simp at h; subst h
        refine ⟨.iface t (ρ' x), fun w => ?_, .iface t _ _ (hρ x y hx)⟩
        simp only [execOp, Sem.run_bind, Instr.makeInterface, underlying_eq, hu, Result.andThen_ok]
        cases d <;> first | exact (hni _ hu).elim | simp
  case makeFunc fn b c =>
    cases fn <;> simp only [] at h <;> try (cases h; done)
    split at h
    · rename_i b' c' hb hc
      simp at h; subst h
      refine ⟨_, fun w => ?_, .func _ _ _ _ _ (mapO_sound hρ hb) (mapO_sound hρ hc)⟩
      simp [execOp, Instr.makeFunc]
      constructor <;> exact Array.ext' (by simp)
    · cases h
  case extract x i =>
    split at h
    · rename_i l hx
      have hr := hρ x _ hx
      generalize hx' : ρ' x = x' at *
      cases hr with
      | tuple _ l' hl =>
        obtain ⟨v', h1, h2⟩ := hl.get h
        refine ⟨v', fun w => ?_, h2⟩
        simp [execOp, Instr.extract, hx', h1]
    · cases h
  case field t x f =>
    cases hx : ρ x with
    | none => rw [hx] at h; cases h
    | some y =>
      rw [hx] at h
      obtain ⟨v', h1, h2⟩ := fieldV_sound (hρ x y hx) h
      exact ⟨v', fun w => by simp [execOp, h1], h2⟩
  case fieldAddr t x f =>
    cases hx : ρ x with
    | none => rw [hx] at h; cases h
    | some y =>
      rw [hx] at h
      obtain ⟨v', h1, h2⟩ := fieldAddrV_sound (hρ x y hx) h
      exact ⟨v', fun w => by simp [execOp, h1], h2⟩
  case index t x i =>
    split at h
    · rename_i a b hx hi
      obtain ⟨v', h1, h2⟩ := indexV_sound (hρ x _ hx) (hρ i _ hi) h
      exact ⟨v', fun w => by simp [execOp, h1], h2⟩
    · cases h
  case indexAddr t x i =>
    split at h
    · rename_i a b hx hi
      obtain ⟨v', h1, h2⟩ := indexAddrV_sound (hρ x _ hx) (hρ i _ hi) h
      exact ⟨v', fun w => by simp [execOp, h1], h2⟩
    · cases h
  case slice t x lo hi mx =>
    obtain ⟨v', h1, h2⟩ := sliceOpV_sound (deep := false) hρ (fun x => by cases x) h
    exact ⟨v', fun w => by simp [execOp, h1], h2⟩
  case binOp op t x y yt =>
    have gen : ∀ a b, ρ x = some a → ρ y = some b → plain 2 a = true → plain 2 b = true → ((pureV P (do eqGuard op t x y a b; binOp op t a b : Sem Value)).bind fun v => if plain 0 v then some v else none) = some v →
        ∃ v', (∀ w, (execOp ρ' ⟨dst, .binOp op t x y yt, type, pos, after, guard⟩).run P w = .ok (.value v') w) ∧ VR φ v v' := by
      intro a b hx hy h1 h2 h
      have ea := VR.eq_of_plain 2 _ _ h1 (hρ x _ hx)
      have eb := VR.eq_of_plain 2 _ _ h2 (hρ y _ hy)
      cases hm : pureV P (do eqGuard op t x y a b; binOp op t a b : Sem Value) with
      | none => rw [hm] at h; cases h
      | some r =>
        rw [hm] at h; simp only [Option.bind_some] at h
        split at h
        · rename_i hpr
          simp at h; subst h
          refine ⟨r, fun w => ?_, VR.of_plain 0 r hpr⟩
          have := pureV_run hm w
          simp only [execOp, ea, eb]
          rw [Sem.run_bind, this]
          simp
        · cases h
    split at h
    · rename_i k a k' b hx hy
      split at h
      · rename_i u hk hu
        simp at h; subst h
        have := kIdx_eq hk
        subst this
        have ea := VR.eq_of_plain 0 _ _ rfl (hρ x _ hx)
        have eb := VR.eq_of_plain 0 _ _ rfl (hρ y _ hy)
        refine ⟨u, fun w => ?_, ?_⟩
        · simp only [execOp, ea, eb]
          rw [Sem.run_bind, intF_run hu w]
          rfl
        · cases op <;> simp only [intF, Option.some.injEq, reduceCtorEq] at hu <;> subst hu <;> first | exact .int _ _ | exact .bool _
      · exact gen _ _ hx hy rfl rfl h
    · rename_i a b _ hx hy
      split at h
      · rename_i hp
        simp only [Bool.and_eq_true] at hp
        exact gen _ _ hx hy hp.1 hp.2 h
      · obtain ⟨⟨r, rfl⟩, h1⟩ := eqlV_sound (x := x) (y := y) (hρ x _ hx) (hρ y _ hy) h
        refine ⟨.bool r, fun w => ?_, .bool r⟩
        simp only [execOp]
        rw [Sem.run_bind, h1]
        simp
    · cases h
  case unOp op t x =>
    split at h
    · rename_i a hx
      split at h
      · rename_i hp
        have ea := VR.eq_of_plain 0 _ _ hp (hρ x _ hx)
        cases hm : pureV P (Op.unary op a) with
        | none => rw [hm] at h; cases h
        | some r =>
          rw [hm] at h; simp only [Option.bind_some] at h
          split at h
          · rename_i hpr
            simp at h; subst h
            refine ⟨r, fun w => ?_, VR.of_plain 0 r hpr⟩
            simp [execOp, ea, pureV_run hm]
          · cases h
      · cases h
    · cases h
  case convert s d x =>
    split at h
    · rename_i k n hx
      have ea := VR.eq_of_plain 0 _ _ rfl (hρ x _ hx)
      split at h
      · rename_i ds kk hs hd
        simp at h; subst h
        refine ⟨_, fun w => ?_, .int _ _⟩
        simp only [execOp, ea]
        cases ds <;> simp [convert, underlying_eq, hs, hd, Conv.intToInt, wrapF_eq]
      · cases h
      · cases h
    · rename_i a _ hx
      split at h
      · rename_i hp
        have ea := VR.eq_of_plain 0 _ _ hp (hρ x _ hx)
        cases hm : pureV P (convert s d a) with
        | none => rw [hm] at h; cases h
        | some r =>
          rw [hm] at h; simp only [Option.bind_some] at h
          split at h
          · rename_i hpr
            simp at h; subst h
            refine ⟨r, fun w => ?_, VR.of_plain 0 r hpr⟩
            simp [execOp, ea, pureV_run hm]
          · cases h
      · cases h
    · cases h
  case typeAssert x xt t ok =>
    cases hx : ρ x with
    | none => rw [hx] at h; cases h
    | some y =>
      rw [hx] at h
      obtain ⟨v', h1, h2⟩ := typeAssertV_sound (xt := xt) (hρ x y hx) h
      exact ⟨v', fun w => by simp [execOp, h1], h2⟩
  case build t ps =>
    cases hx : partsO ρ ps.toList with
    | none => rw [hx] at h; cases h
    | some y =>
      rw [hx] at h
      obtain ⟨v', h1, h2⟩ := buildV_sound (partsO_sound hρ hx) h
      refine ⟨v', fun w => ?_, h2⟩
      have e : (ps.map fun (i, x) => (i, ρ' x)) = ⟨ps.toList.map fun (i, x) => (i, ρ' x)⟩ := Array.ext' (by simp)
      simp only [execOp, e]
      simp [h1]
  case call c =>
    obtain ⟨callee, args, ats⟩ := c
    cases callee <;> simp only [] at h <;> try (cases h; done)
    rename_i b
    cases hx : mapO ρ args.toList with
    | none => rw [hx] at h; cases h
    | some y =>
      rw [hx] at h
      obtain ⟨v', h1, h2⟩ := builtinV_sound (cs := args.map fun | .const _ => true | _ => false) (mapO_sound hρ hx) h
      refine ⟨v', fun w => ?_, h2⟩
      have e : args.map ρ' = ⟨args.toList.map ρ'⟩ := Array.ext' (by simp)
      simp only [execOp, resolve, e]
      simp only [Sem.run_bind, Sem.run_pure, Result.andThen_ok, invoke]
      exact h1 w
end Go.Am
namespace Go.Am
open Go
inductive ANext where
  | value (v : Value)
  | skip
  | enter (f : FuncId) (args : List Value)
  | dfr (f : FuncId) (args : List Value)
def NR (φ : Inj) : ANext → Next → Prop
  | .value v, .value v' => VR φ v v'
  | .skip, .skip => True
  | .enter f args, .enter f' args' => f' = f ∧ VRs φ args args'.toList
  | .dfr f args, .defer d => ∃ c, d.target = .fn (.func f) c ∧ VRs φ args (d.args ++ c).toList
  | _, _ => False
def Out (P : Program) (φ : Inj) (H : AHeap) (w : World) (n : ANext) (H' : AHeap) (s : Sem Next) : Prop :=
  ∃ φ' w' n', s.run P w = .ok n' w' ∧ NR φ' n n' ∧ Emb P φ' H' w' ∧ Step φ H w φ' H' w'
theorem Emb.of_heap {P : Program} {φ : Inj} {H : AHeap} {w w' : World} (em : Emb P φ H w) (h : w'.heap = w.heap) : Emb P φ H w' where
  obj := fun i o hi => by rw [h]; exact em.obj i o hi
  inj := em.inj
  fresh := em.fresh
  glob := em.glob
theorem Step.of_heap (φ : Inj) (H : AHeap) {w w' : World} (h : w'.heap = w.heap) (os : w'.os = w.os) (tape : w'.tape = w.tape) (output : w'.output = w.output) : Step φ H w φ H w' where
  le := Inj.le_refl φ
  os := os
  tape := tape
  output := output
  size := by rw [h]; exact Nat.le_refl _
  out := fun b _ _ => by rw [h]
  same := fun i o o' e h1 h2 _ _ => by rw [h1] at h2; simp at h2; exact ⟨h2.symm, by rw [h]⟩
  vers := fun i o' _ h => ⟨o', h, Nat.le_refl _, rfl⟩
  len := Nat.le_refl _
  log := ⟨[], rfl, fun _ _ _ => rfl⟩
  nw := fun j o' e hj h _ => by
    rw [AHeap.get_none hj] at h; cases h
def rdVar (P : Program) (H : AHeap) (t : TypeId) (a : Addr) : Option Value :=
  match aggT P t with
  | some true => (sizeT P t).bind fun n => (rdRow H a n).map fun l => .agg ⟨l⟩
  | some false => rdCell H a
  | none => none
theorem rdVar_sound {P : Program} {φ : Inj} {H : AHeap} {w : World} (em : Emb P φ H w) {a a' : Addr} (ha : AddrR φ a a') {t : TypeId} {v : Value} (h : rdVar P H t a = some v) :
    ∃ v', (∀ w2 : World, w2.heap[a'.block]? = w.heap[a'.block]? → (loadVar t a').run P w2 = .ok v' w2) ∧ VR φ v v' := by
  unfold rdVar at h
  split at h
  · rename_i hagg
    cases hs : sizeT P t with
    | none => rw [hs] at h; cases h
    | some n =>
      rw [hs] at h; simp only [Option.bind_some] at h
      cases hr : rdRow H a n with
      | none => rw [hr] at h; cases h
      | some l =>
        rw [hr] at h; simp at h; subst h
        obtain ⟨l', h1, h2, _⟩ := rdRow_sound (P := P) em ha hr
        refine ⟨.agg ⟨l'⟩, fun w2 hw2 => ?_, .agg _ _ h2⟩
        unfold loadVar
        simp [isAgg_of hagg, sizeOf_of hs, h1 w2 hw2]
  · rename_i hagg
    obtain ⟨v', h1, h2⟩ := rdCell_sound em ha h
    refine ⟨v', fun w2 hw2 => ?_, h2⟩
    unfold loadVar
    simp [isAgg_of hagg, h1 w2 hw2]
  · cases h
def execL (P : Program) (ρ : Operand → Option Value) (H : AHeap) (o : Oper) : Option (Value × Nat) :=
  match o.op with
  | .load t x => match ρ x with
    | some (.pointer (some a)) => (rdVar P H t a).map fun v => (v, a.block)
    | _ => none
  | _ => none
theorem execL_sound {P : Program} {φ : Inj} {ρ : Operand → Option Value} {ρ' : Operand → Value} (hρ : ∀ x v, ρ x = some v → VR φ v (ρ' x)) {H : AHeap} {w : World} (em : Emb P φ H w) {o : Oper} {v : Value} {b : Nat}
    (h : execL P ρ H o = some (v, b)) :
    ∃ v' e, φ b = some e ∧ (∀ w2 : World, w2.heap[e.blk]? = w.heap[e.blk]? → (execOp ρ' o).run P w2 = .ok (.value v') w2) ∧ VR φ v v' := by
  obtain ⟨dst, op, type, pos, after, guard⟩ := o
  cases op <;> simp only [execL] at h <;> try (cases h; done)
  rename_i t x
  split at h
  · rename_i a hx
    cases hr : rdVar P H t a with
    | none => rw [hr] at h; cases h
    | some y =>
      rw [hr] at h; simp at h; obtain ⟨rfl, rfl⟩ := h
      have hxr := hρ x _ hx
      generalize hx' : ρ' x = x' at *
      cases hxr with
      | ptr _ a' ha =>
        obtain ⟨v', h1, h2⟩ := rdVar_sound em ha hr
        obtain ⟨e, he, rfl⟩ := ha
        refine ⟨v', e, he, fun w2 hw2 => ?_, h2⟩
        simp [execOp, Instr.loadAt, Instr.sureAddr, hx', h1 w2 hw2]
  · cases h
def newA (P : Program) (H : AHeap) (elem : TypeId) (c : List Value) (exact : Bool) : Option (Addr × AHeap) :=
  match sizeT P elem with
  | some _ => some (⟨H.n, 0, none⟩, H.push (some (.cells c elem exact false 0)))
  | none => none
theorem newA_sound {P : Program} {φ : Inj} {H H' : AHeap} {w : World} (em : Emb P φ H w) {elem : TypeId} {c : List Value} {c' : Array Value} {exact : Bool} {a : Addr}
    (hle : c.length ≤ c'.size) (hv : VRs φ c (c'.toList.take c.length)) (hx : exact = true → c.length = c'.size) (h : newA P H elem c exact = some (a, H')) :
    ∃ φ' w' a' esz, (newRow elem c').run P w = .ok a' w' ∧ AddrR φ' a a' ∧ Emb P φ' H' w' ∧ Step φ H w φ' H' w' ∧ sizeT P elem = some esz ∧ a = ⟨H.n, 0, none⟩ ∧ φ' H.n = some ⟨w.heap.size, c'.size, esz⟩ := by
  unfold newA at h
  split at h
  · rename_i esz hs
    simp at h; obtain ⟨rfl, rfl⟩ := h
    obtain ⟨h1, h2⟩ := step_new em hs hle hv hx
    refine ⟨_, _, ⟨w.heap.size, 0, none⟩, esz, ?_, ⟨⟨w.heap.size, c'.size, esz⟩, by simp, rfl⟩, h1, h2, hs, rfl, by simp⟩
    unfold newRow
    simp
  · cases h
def zerosL (z : Array Value) (n : Nat) : List Value := (List.range n).map fun i => z.toList.getD (i % z.toList.length) default
theorem zeros_eq (z : Array Value) (n : Nat) : ((Array.range n).map fun i => z[i % z.size]!).toList = zerosL z n := by
  unfold zerosL
  simp only [Array.toList_map, Array.toList_range]
  apply List.map_congr_left
  intro i _
  simp [List.getD, getElem!_def, Array.getElem?_toList]
  cases z[i % z.size]? <;> rfl
theorem zerosL_length (z : Array Value) (n : Nat) : (zerosL z n).length = n := by simp [zerosL]
theorem zerosL_plain {φ : Inj} {z : Array Value} (n : Nat) (h : z.toList.all (plain 1) = true) : VRs φ (zerosL z n) (zerosL z n) := by
  unfold zerosL
  refine VRs.map_get _ _ _ fun i _ => ?_
  cases hv : z.toList[i % z.toList.length]? with
  | none => rw [List.getD_eq_getElem?_getD, hv]; exact .bool _
  | some v =>
    rw [List.getD_eq_getElem?_getD, hv]
    exact VR.of_plain 1 v (List.all_eq_true.1 h v (List.mem_of_getElem? hv))
theorem OR.size {P : Program} {φ : Inj} {e : Ent} {c : List Value} {t : TypeId} {ex ro : Bool} {ver : Nat} {o' : Obj} (h : OR P φ e (.cells c t ex ro ver) o') : sizeT P t = some e.esz := by
  cases o' <;> simp only [OR] at h
  exact h.2.2.2.1
theorem step_kill {P : Program} {φ : Inj} {H : AHeap} {w : World} (em : Emb P φ H w) (i : Nat) (hi : i < H.n) : Emb P φ (H.set i none) w ∧ Step φ H w φ (H.set i none) w := by
  have hget : ∀ (j : Nat) (oj : AObj), (H.set i none).get j = some (some oj) → H.get j = some (some oj) := by
    intro j oj hj
    rw [AHeap.get_set] at hj
    split at hj
    · simp at hj
    · exact hj
  refine ⟨⟨fun j o hj => em.obj j o (hget j o hj), fun j k oj ok ej ek hj hk a b c => em.inj j k oj ok ej ek (hget j oj hj) (hget k ok hk) a b c, fun j hj => em.fresh j (by rw [AHeap.set_n] at hj; exact hj), em.glob⟩,
    ⟨Inj.le_refl φ, rfl, rfl, rfl, Nat.le_refl _, fun _ _ _ => rfl, ?_, ?_, by rw [AHeap.set_n]; exact Nat.le_refl _, ?_, ?_⟩⟩
  · intro j o o' e h h' _ _
    have := hget j o' h'
    rw [h] at this; simp at this
    exact ⟨this.symm, rfl⟩
  · intro j o' _ h'; exact ⟨o', hget j o' h', Nat.le_refl _, rfl⟩
  · refine ⟨[i], by rw [AHeap.set_log hi]; rfl, fun j hj hn => ?_⟩
    rw [AHeap.get_set, if_neg]
    rintro ⟨rfl, _⟩; simp at hn
  · intro j o' e hj h' _
    have := AHeap.lt_of_get h'
    rw [AHeap.set_n] at this; omega
theorem step_renew {P : Program} {φ : Inj} {H : AHeap} {w w' : World} (em : Emb P φ H w) {i : Nat} {o : AObj} {c₂ : List Value} {el : TypeId} {e : Ent} {x : Obj}
    (ho : H.get i = some (some o)) (he : φ i = some e) (hro : o.ro = false)
    (hos : w'.os = w.os) (htape : w'.tape = w.tape) (hout : w'.output = w.output) (hsz : w'.heap.size = w.heap.size)
    (hx : w'.heap[e.blk]? = some x) (hrest : ∀ b, b ≠ e.blk → w'.heap[b]? = w.heap[b]?) (hr : OR P φ e (.cells c₂ el false false 0) x) :
    let φ' : Inj := fun j => if j = H.n then some e else φ j
    Emb P φ' ((H.set i none).push (some (.cells c₂ el false false 0))) w' ∧ Step φ H w φ' ((H.set i none).push (some (.cells c₂ el false false 0))) w' := by
  intro φ'
  have hil := AHeap.lt_of_get ho
  have hfr := em.fresh H.n (Nat.le_refl _)
  have hle : φ.le φ' := fun j e' he' => by
    show (if j = H.n then some e else φ j) = some e'
    split
    · rename_i hj; subst hj; rw [hfr] at he'; cases he'
    · exact he'
  have hnew : φ' H.n = some e := by show (if H.n = H.n then _ else _) = _; rw [if_pos rfl]
  have hold : ∀ j, j < H.n → φ' j = φ j := fun j hj => by show (if j = H.n then _ else φ j) = _; rw [if_neg (by omega)]
  have hn : ((H.set i none).push (some (AObj.cells c₂ el false false 0))).n = H.n + 1 := by show (H.set i none).n + 1 = _; rw [AHeap.set_n]
  have hget : ∀ (j : Nat) (oj : AObj), ((H.set i none).push (some (AObj.cells c₂ el false false 0))).get j = some (some oj) → (j = H.n ∧ oj = .cells c₂ el false false 0) ∨ (j < H.n ∧ j ≠ i ∧ H.get j = some (some oj)) := by
    intro j oj hj
    rw [AHeap.get_push, AHeap.set_n] at hj
    split at hj
    · rename_i h; simp at hj; exact .inl ⟨h, hj.symm⟩
    · rw [AHeap.get_set] at hj
      split at hj
      · simp at hj
      · rename_i hij
        have hjl := AHeap.lt_of_get hj
        exact .inr ⟨hjl, fun h => hij ⟨h.symm, hjl⟩, hj⟩
  refine ⟨⟨?_, ?_, ?_, ?_⟩, ⟨hle, hos, htape, hout, by omega, ?_, ?_, ?_, by rw [hn]; omega, ?_, ?_⟩⟩
  · intro j oj hj
    rcases hget j oj hj with ⟨rfl, rfl⟩ | ⟨h1, h2, h3⟩
    · exact ⟨e, x, hnew, hx, hr.mono hle⟩
    · obtain ⟨ej, xj, hej, hxj, hrj⟩ := em.obj j oj h3
      exact ⟨ej, xj, hle _ _ hej, by rw [hrest _ fun hb => h2 (em.inj j i oj o ej e h3 ho hej he hb)]; exact hxj, hrj.mono hle⟩
  · intro j k oj ok ej ek hj hk hej hek hb
    rcases hget j oj hj with ⟨rfl, rfl⟩ | ⟨j1, j2, j3⟩ <;> rcases hget k ok hk with ⟨rfl, rfl⟩ | ⟨k1, k2, k3⟩
    · rfl
    · rw [hnew] at hej; cases hej; rw [hold k k1] at hek
      exact absurd (em.inj k i ok o ek e k3 ho hek he hb.symm) k2
    · rw [hnew] at hek; cases hek; rw [hold j j1] at hej
      exact absurd (em.inj j i oj o ej e j3 ho hej he hb) j2
    · rw [hold j j1] at hej; rw [hold k k1] at hek
      exact em.inj j k oj ok ej ek j3 k3 hej hek hb
  · intro j hj
    rw [hn] at hj
    show (if j = H.n then _ else φ j) = none
    rw [if_neg (by omega)]; exact em.fresh j (by omega)
  · intro g hg
    obtain ⟨e', he', hb⟩ := em.glob g hg
    exact ⟨e', hle _ _ he', hb⟩
  · intro b hb h
    exact hrest b fun hbe => h i o e ho hro he hbe.symm
  · intro j o₁ o' e' hj hj' hver he'
    have hjl := AHeap.lt_of_get hj
    rcases hget j o' hj' with ⟨rfl, rfl⟩ | ⟨_, h2, h3⟩
    · omega
    · rw [hj] at h3; simp at h3; subst h3
      exact ⟨rfl, hrest _ fun hb => h2 (em.inj j i o₁ o e' e hj ho he' he hb)⟩
  · intro j o' hj hj'
    rcases hget j o' hj' with ⟨rfl, rfl⟩ | ⟨_, _, h3⟩
    · omega
    · exact ⟨o', h3, Nat.le_refl _, rfl⟩
  · refine ⟨[i], ?_, fun j hj hnn => ?_⟩
    · show (H.set i none).log = _
      rw [AHeap.set_log hil]; rfl
    · rw [AHeap.get_push, AHeap.set_n, if_neg (by omega), AHeap.get_set, if_neg]
      rintro ⟨rfl, _⟩; simp at hnn
  · intro j o' e' hj hj' he'
    rcases hget j o' hj' with ⟨rfl, rfl⟩ | ⟨h1, _, _⟩
    · rw [hnew] at he'; cases he'
      exact .inr ⟨i, o, e, ho, hro, he, rfl⟩
    · omega
end Go.Am
namespace Go.Am
open Go
def wrVar (P : Program) (H : AHeap) (t : TypeId) (a : Addr) (v : Value) : Option AHeap :=
  if sizeT P t = some v.cells.size then wrRow H a v.cells.toList else none
theorem wrVar_sound {P : Program} {φ : Inj} {H H' : AHeap} {w : World} (em : Emb P φ H w) {a a' : Addr} (ha : AddrR φ a a') {t : TypeId} {v v' : Value} (hv : VR φ v v') (h : wrVar P H t a v = some H') :
    ∃ w', (storeVar t a' v').run P w = .ok () w' ∧ Emb P φ H' w' ∧ Step φ H w φ H' w' := by
  unfold wrVar at h
  split at h
  · rename_i hs
    have hc := VRs.cells hv
    have hsz := hc.toArr
    obtain ⟨w', h1, h2, h3⟩ := wrRow_sound em ha hc h
    refine ⟨w', ?_, h2, h3⟩
    unfold storeVar
    simp [sizeOf_of hs, hsz, h1]
  · cases h
def boxA (P : Program) (H : AHeap) (t : TypeId) (v : Value) : Option (Value × AHeap) :=
  (newA P H t v.cells.toList true).map fun (a, H') => (.pointer (some a), H')
theorem boxA_sound {P : Program} {φ : Inj} {H H' : AHeap} {w : World} (em : Emb P φ H w) {t : TypeId} {v v' r : Value} (hv : VR φ v v') (h : boxA P H t v = some (r, H')) :
    ∃ φ' w' a', (newVar t v').run P w = .ok a' w' ∧ VR φ' r (.pointer (some a')) ∧ Emb P φ' H' w' ∧ Step φ H w φ' H' w' := by
  unfold boxA at h
  cases hn : newA P H t v.cells.toList true with
  | none => rw [hn] at h; cases h
  | some x =>
    obtain ⟨a, H''⟩ := x
    rw [hn] at h; simp at h; obtain ⟨rfl, rfl⟩ := h
    have hc := VRs.cells hv
    have hl := hc.toArr
    obtain ⟨φ', w', a', esz, h1, h2, h3, h4, _⟩ := newA_sound (c' := v'.cells) em (by simp; omega) (by rw [List.take_of_length_le (by simp; omega)]; exact hc) (fun _ => by simp; omega) hn
    exact ⟨φ', w', a', by unfold newVar; exact h1, .ptr _ _ h2, h3, h4⟩
def allocA (P : Program) (H : AHeap) (t : TypeId) : Option (Value × AHeap) :=
  match (P.info? t).bind (·.zero) with
  | some z => if plain 2 z then boxA P H t z else none
  | none => none
theorem allocA_sound {P : Program} {φ : Inj} {H H' : AHeap} {w : World} (em : Emb P φ H w) {t : TypeId} {r : Value} (h : allocA P H t = some (r, H')) :
    ∃ φ' w' v', (Instr.alloc t true (.tuple #[])).run P w = .ok v' w' ∧ VR φ' r v' ∧ Emb P φ' H' w' ∧ Step φ H w φ' H' w' := by
  unfold allocA at h
  split at h
  · rename_i z hz
    split at h
    · rename_i hp
      obtain ⟨φ', w', a', h1, h2, h3, h4⟩ := boxA_sound em (VR.of_plain 2 z hp) h
      refine ⟨φ', w', _, ?_, h2, h3, h4⟩
      unfold Instr.alloc
      simp [zeroValue_of hz, h1]
    · cases h
  · cases h
def buildSliceA (P : Program) (H : AHeap) (t : TypeId) (len : Nat) (parts : List (Nat × Value)) : Option (Value × AHeap) :=
  match P.underlying t with
  | some (.slice el) => match sizeT P el, (P.info? el).bind (·.zero) with
    | some size, some z =>
      if len * size ≤ 2 ^ 24 ∧ z.cells.toList.all (plain 1) then
        match Instr.fill (fun i => some (i * size, size)) (zerosL z.cells (len * size)).toArray parts with
        | some r => (newA P H el r.toList true).map fun (a, H') => (.slice (some a) len len, H')
        | none => none
      else none
    | _, _ => none
  | _ => none
theorem buildSliceA_sound {P : Program} {φ : Inj} {H H' : AHeap} {w : World} (em : Emb P φ H w) {t : TypeId} {len : Nat} {ps ps' : List (Nat × Value)} {r : Value} (hp : PartsR φ ps ps') (hlen : len < UNK)
    (h : buildSliceA P H t len ps = some (r, H')) :
    ∃ φ' w' v', (Instr.buildSlice t len ⟨ps'⟩).run P w = .ok v' w' ∧ VR φ' r v' ∧ Emb P φ' H' w' ∧ Step φ H w φ' H' w' := by
  unfold buildSliceA at h
  split at h
  · rename_i el hu
    split at h
    · rename_i size z hs hz
      split at h
      · rename_i hc
        obtain ⟨hsmall, hpl⟩ := hc
        split at h
        · rename_i rr hf
          cases hn : newA P H el rr.toList true with
          | none => rw [hn] at h; cases h
          | some x =>
            obtain ⟨a, H''⟩ := x
            rw [hn] at h; simp at h; obtain ⟨rfl, rfl⟩ := h
            have hzp : VRs φ (zerosL z.cells (len * size)).toArray.toList (zerosL z.cells (len * size)).toArray.toList := zerosL_plain (φ := φ) (len * size) hpl
            obtain ⟨r', h1, h2⟩ := fill_sound _ hp hzp hf
            have hl := h2.toArr
            obtain ⟨φ', w', a', esz, g1, g2, g3, g4, _⟩ := newA_sound (c' := r') em (by simp; omega) (by rw [List.take_of_length_le (by simp; omega)]; exact h2) (fun _ => by simp; omega) hn
            refine ⟨φ', w', .slice (some a') len len, ?_, .slice _ _ _ _ g2 (by omega), g3, g4⟩
            unfold Instr.buildSlice
            simp only [Sem.run_bind, underlying_eq, hu, Result.andThen_ok, sizeOf_of hs]
            rw [if_neg (by omega)]
            by_cases h0 : len * size = 0
            · rw [if_pos h0]
              have e : (Array.map (fun x => (#[] : Array Value)[x % (#[] : Array Value).size]!) (Array.range (len * size))) = (zerosL z.cells (len * size)).toArray := by
                apply Array.ext'; simp [h0, zerosL]
              simp only [Sem.run_bind, Sem.run_pure, Result.andThen_ok]
              rw [e, h1]
              simp [g1]
            · rw [if_neg h0]
              have e : (Array.map (fun x => z.cells[x % z.cells.size]!) (Array.range (len * size))) = (zerosL z.cells (len * size)).toArray := by
                apply Array.ext'; rw [zeros_eq]
              simp only [Sem.run_bind, Sem.run_pure, Result.andThen_ok, zeroValue_of hz]
              rw [e, h1]
              simp [g1]
        · cases h
      · cases h
    · cases h
  · cases h
def makeSliceA (P : Program) (H : AHeap) (t : TypeId) (len cap : Value) : Option (Value × AHeap) :=
  match P.underlying t, len, cap with
  | some (.slice el), .int _ l, .int _ c => match P.info? el with
    | some i => match i.zero with
      | some z =>
        if 0 ≤ l ∧ l ≤ c ∧ c ≤ 2 ^ 48 ∧ i.bytes * c ≤ 2 ^ 48 ∧ z.cells.toList.all (plain 1) then
          (newA P H el (zerosL z.cells (c.toNat * i.size)) true).map fun (a, H') => (.slice (some a) l.toNat c.toNat, H')
        else none
      | none => none
    | none => none
  | _, _, _ => none
theorem wrap_small {n : Int} (h0 : 0 ≤ n) (h : n ≤ 2 ^ 48) : IntKind.i64.wrap n = n := by
  have e : n % 2 ^ 64 = n := Int.emod_eq_of_lt h0 (by omega)
  simp only [IntKind.wrap, IntKind.signed, IntKind.bits, e]
  rw [if_neg (by simp; omega)]
theorem makeSliceA_sound {P : Program} {φ : Inj} {H H' : AHeap} {w : World} (em : Emb P φ H w) {t : TypeId} {len cap len' cap' r : Value} (hl : VR φ len len') (hc : VR φ cap cap')
    (h : makeSliceA P H t len cap = some (r, H')) :
    ∃ φ' w' v', (Instr.makeSlice t len' cap').run P w = .ok v' w' ∧ VR φ' r v' ∧ Emb P φ' H' w' ∧ Step φ H w φ' H' w' := by
  unfold makeSliceA at h
  split at h
  · rename_i el k l k' c hu
    cases hl
    cases hc
    split at h
    · rename_i i hi
      split at h
      · rename_i z hz
        split at h
        · rename_i hcond
          obtain ⟨h0, hlc, hcb, hbytes, hpl⟩ := hcond
          cases hn : newA P H el (zerosL z.cells (c.toNat * i.size)) true with
          | none => rw [hn] at h; cases h
          | some x =>
            obtain ⟨a, H''⟩ := x
            rw [hn] at h; simp at h; obtain ⟨rfl, rfl⟩ := h
            have hs : sizeT P el = some i.size := by unfold sizeT; rw [hi]; rfl
            have hzz : (P.info? el).bind (·.zero) = some z := by rw [hi]; exact hz
            obtain ⟨φ', w', a', esz, g1, g2, g3, g4, _⟩ := newA_sound (c' := (zerosL z.cells (c.toNat * i.size)).toArray) em (by simp) (by rw [List.take_of_length_le (by simp)]; exact zerosL_plain _ hpl) (fun _ => by simp) hn
            refine ⟨φ', w', .slice (some a') l.toNat c.toNat, ?_, .slice _ _ _ _ g2 (by unfold UNK; omega), g3, g4⟩
            unfold Instr.makeSlice
            simp only [Sem.run_bind, underlying_eq, hu, Result.andThen_ok, asInt, asIntOf, Sem.run_pure, typeInfo_eq, hi, wrap_small (n := l) h0 (by omega), wrap_small (n := c) (by omega) hcb]
            have e1 : (decide (c < 0) || decide (↑i.bytes * c > 2 ^ 48)) = false := by simp; omega
            have e2 : decide (l < 0) = false := by simp; omega
            have e3 : decide (l > c) = false := by simp; omega
            have e4 : ((decide (c < 0) || decide ((i.bytes : Int) * c > 2 ^ 48)) || decide (l < 0) || decide (l > c)) = false := by simp only [e1, e2, e3]; rfl
            rw [if_neg (by rw [e4]; simp)]
            simp only [run_askRoom, Result.andThen_ok, sizeOf_of hs, Sem.run_bind]
            by_cases hz0 : c.toNat * i.size = 0
            · rw [if_pos hz0]
              have e : (Array.map (fun x => (#[] : Array Value)[x % (#[] : Array Value).size]!) (Array.range (c.toNat * i.size))) = (zerosL z.cells (c.toNat * i.size)).toArray := by
                apply Array.ext'; simp [hz0, zerosL]
              simp only [Sem.run_bind, Sem.run_pure, Result.andThen_ok]
              rw [e, g1]
              simp
            · rw [if_neg hz0]
              have e : (Array.map (fun x => z.cells[x % z.cells.size]!) (Array.range (c.toNat * i.size))) = (zerosL z.cells (c.toNat * i.size)).toArray := by
                apply Array.ext'; rw [zeros_eq]
              simp only [Sem.run_bind, Sem.run_pure, Result.andThen_ok, zeroValue_of hzz]
              rw [e, g1]
              simp
        · cases h
      · cases h
    · cases h
  · cases h
end Go.Am
namespace Go.Am
open Go
def lenA : Value → Option Nat
  | .slice _ n _ => some n
  | .string s => some s.size
  | _ => none
def firstA (H : AHeap) (size n : Nat) : Value → Option (List Value)
  | .slice (some a) _ _ => rdRow H a (n * size)
  | .slice none _ _ => some []
  | .string s => some ((s.extract 0 n).data.toList.map fun b => .int .u8 b.toNat)
  | _ => none
theorem lenA_sound {P : Program} {φ : Inj} {x x' : Value} {n : Nat} (hx : VR φ x x') (h : lenA x = some n) (w : World) : (Builtin.lenOf x').run P w = .ok n w := by
  cases hx <;> simp [lenA] at h <;> subst h <;> rfl
theorem firstA_sound {P : Program} {φ : Inj} {H : AHeap} {w : World} (em : Emb P φ H w) {size n : Nat} {x x' : Value} {l : List Value} (hx : VR φ x x') (h : firstA H size n x = some l) :
    ∃ l' : List Value, (∀ w2 : World, w2.heap = w.heap → (Builtin.firstCells size n x').run P w2 = .ok ⟨l'⟩ w2) ∧ VRs φ l l' := by
  cases hx with
  | sliceNil =>
    simp [firstA] at h; subst h
    exact ⟨[], fun w2 _ => rfl, .nil⟩
  | string s =>
    simp only [firstA, Option.some.injEq] at h; subst h
    refine ⟨_, fun w2 _ => ?_, VRs.map_get _ _ _ fun b _ => .int .u8 (b.toNat : Int)⟩
    simp only [Builtin.firstCells, Sem.run_pure]
    congr 1
    apply Array.ext'
    simp
  | slice a a' l c ha hc =>
    simp only [firstA] at h
    obtain ⟨l', h1, h2, _⟩ := rdRow_sound (P := P) em ha h
    exact ⟨l', fun w2 hw => by simp only [Builtin.firstCells]; exact h1 w2 (by rw [hw]), h2⟩
  | sliceUnk a e l c he hl ht =>
    simp only [firstA] at h
    obtain ⟨l', h1, h2, _⟩ := rdRow_sound (P := P) em (AddrR.fixed he) h
    exact ⟨l', fun w2 hw => by simp only [Builtin.firstCells]; exact h1 w2 (by rw [hw]), h2⟩
  | _ => simp [firstA] at h
def elemsA (H : AHeap) (size : Nat) (x : Value) : Option (Nat × List Value) :=
  match lenA x with
  | some n => (firstA H size n x).map fun l => (n, l)
  | none => none
def addedA (P : Program) (H : AHeap) (z : Array Value) (size bytes : Nat) (xT : Option TypeId) (x : Value) : Option (Nat × List Value) :=
  let zeros : Option Bool := match xT with
    | some t => match P.underlying t with
      | some (.int _) => some true
      | some .string | some (.slice _) => some false
      | _ => none
    | none => some false
  match zeros with
  | none => none
  | some true => match x with
    | .int _ n => if 0 ≤ n ∧ n ≤ 2 ^ 40 ∧ n * bytes ≤ 2 ^ 48 then some (n.toNat, zerosL z (n.toNat * z.size)) else none
    | _ => none
  | some false => elemsA H size x
theorem nextslicecap_le {newLen oldCap : Nat} (h : oldCap < newLen) : Builtin.nextslicecap newLen oldCap ≤ 4 * newLen + 2000 := by
  unfold Builtin.nextslicecap
  split
  · omega
  · split
    · omega
    · simp only [Builtin.growBy]
      repeat' split
      all_goals omega
def appendA (P : Program) (H : AHeap) (ats : Array TypeId) (vs : List Value) : Option (Value × AHeap) :=
  match ats[0]?, vs with
  | some sT, [.slice base sLen sCap, x] =>
    match P.underlying sT with
    | some (.slice el) => match P.info? el with
      | some i => match i.zero with
        | some z =>
          if 0 < i.size ∧ 0 < i.bytes ∧ z.cells.size = i.size ∧ z.cells.toList.all (plain 1) then
            match addedA P H z.cells i.size i.bytes ats[1]? x with
            | some (n, new) =>
              if new.length = n * i.size ∧ (4 * (sLen + n) + 2000) * i.bytes ≤ 2 ^ 48 then
                if sCap = UNK then
                  match base with
                  | some ⟨b, 0, none⟩ => match H.get b with
                    | some (some (.cells c t ex false _)) =>
                      if t = el ∧ sLen * i.size ≤ c.length then
                        if (sLen + n) * i.size ≤ c.length then
                          if n = 0 then some (.slice base sLen UNK, H)
                          else (wrRow H ⟨b, sLen * i.size, none⟩ new).map fun H' => (.slice base (sLen + n) UNK, H')
                        else if ex = false ∧ new.all (·.oneCell') then
                          some (.slice (some ⟨H.n, 0, none⟩) (sLen + n) UNK, (H.set b none).push (some (.cells (c.take (sLen * i.size) ++ new) el false false 0)))
                        else none
                      else none
                    | _ => none
                  | _ => none
                else if sLen + n ≤ sCap then
                  if n = 0 then some (.slice base sLen sCap, H)
                  else match base with
                  | some a => (wrRow H (a.add (sLen * i.size)) new).map fun H' => (.slice base (sLen + n) sCap, H')
                  | none => none
                else
                  match firstA H i.size sLen (.slice base sLen sCap) with
                  | some old => if old.length = sLen * i.size then (newA P H el (old ++ new) false).map fun (a, H') => (.slice (some a) (sLen + n) UNK, H') else none
                  | none => none
              else none
            | none => none
          else none
        | none => none
      | none => none
    | _ => none
  | _, _ => none
inductive Adds (P : Program) (xT : Option TypeId) (i : TypeInfo) (z : Value) (x : Value) (n : Nat) (l : List Value) (hp : Array Obj) : Prop
  | elems (hz : xT = none ∨ (∃ t, xT = some t ∧ P.underlying t = some .string) ∨ ∃ t e, xT = some t ∧ P.underlying t = some (.slice e)) (hn : ∀ w, (Builtin.lenOf x).run P w = .ok n w)
      (hl : ∀ w : World, w.heap = hp → (Builtin.firstCells i.size n x).run P w = .ok ⟨l⟩ w)
  | noughts (t : TypeId) (k : IntKind) (kx : IntKind) (m : Int) (hz : xT = some t) (ht : P.underlying t = some (.int k)) (hx : x = .int kx m) (h0 : 0 ≤ m) (h1 : m ≤ 2 ^ 40) (h2 : m * i.bytes ≤ 2 ^ 48)
      (hn : n = m.toNat) (hl : l = if n * i.size = 0 then [] else zerosL z.cells (n * z.cells.size))
theorem zeroCells_eq (z : Array Value) (n : Nat) : Builtin.zeroCells z n = ⟨zerosL z (n * z.size)⟩ := by
  unfold Builtin.zeroCells
  apply Array.ext'
  rw [zeros_eq]
theorem cut_ge (need old : Nat) (el : TypeId) (t : Nat) : need ≤ (Question.appendCap need old el).cut t := by
  simp [Question.cut]
section
variable {P : Program} {ats : Array TypeId} {ty sT el : TypeId} {i : TypeInfo} {z : Value} {base : Option Addr} {sLen sCap n : Nat} {x : Value} {l : List Value} {w : World}
theorem append_in (h0 : ats[0]? = some sT) (hu : P.underlying sT = some (.slice el)) (hi : P.info? el = some i) (hz : i.zero = some z) (ha : Adds P ats[1]? i z x n l w.heap) (hle : sLen + n ≤ sCap)
    {w' : World} (hs : base = none ∧ w' = w ∨ ∃ a, base = some a ∧ (storeCells (a.add (sLen * i.size)) l).run P w = .ok () w') :
    (Builtin.append_ ats ty #[.slice base sLen sCap, x]).run P w = .ok (.slice base (sLen + n) sCap) w' := by
  have hsz : sizeT P el = some i.size := by unfold sizeT; rw [hi]; rfl
  have hzz : (P.info? el).bind (·.zero) = some z := by rw [hi]; exact hz
  have fin : ∀ w : World, base = none ∧ w' = w ∨ (∃ a, base = some a ∧ (storeCells (a.add (sLen * i.size)) l).run P w = .ok () w') →
      Sem.run P (match base with
            | some a_2 => (fun _ => Value.slice base (sLen + n) sCap) <$> storeCells (a_2.add (sLen * i.size)) l
            | x => pure (Value.slice base (sLen + n) sCap)) w = .ok (.slice base (sLen + n) sCap) w' := by
    intro w hq
    rcases hq with ⟨rfl, rfl⟩ | ⟨a, rfl, hq⟩
    · rfl
    · simp [hq]
  have fin' : ∀ w : World, (base = none ∧ w' = w ∨ (∃ a, base = some a ∧ (storeCells (a.add (sLen * i.size)) (zerosL z.cells (n * z.cells.size))).run P w = .ok () w')) →
      Sem.run P (match base with
            | some a_2 => (fun _ => Value.slice base (sLen + n) sCap) <$> storeCells (a_2.add (sLen * i.size)) (zerosL z.cells (n * z.cells.size))
            | x => pure (Value.slice base (sLen + n) sCap)) w = .ok (.slice base (sLen + n) sCap) w' := by
    intro w hq
    rcases hq with ⟨rfl, rfl⟩ | ⟨a, rfl, hq⟩
    · rfl
    · simp [hq]
  cases ha with
  | elems hxT hn hl =>
    rcases hxT with hxT | ⟨t, hxT, hd⟩ | ⟨t, e, hxT, hd⟩
    · unfold Builtin.append_
      simp [h0, hxT, hu, underlying_eq, sizeOf_of hsz, typeInfo_eq, hi, hn, hle, hl w rfl]
      exact fin w hs
    · unfold Builtin.append_
      simp [h0, hxT, hu, hd, underlying_eq, sizeOf_of hsz, typeInfo_eq, hi, hn, hle, hl w rfl]
      exact fin w hs
    · unfold Builtin.append_
      simp [h0, hxT, hu, hd, underlying_eq, sizeOf_of hsz, typeInfo_eq, hi, hn, hle, hl w rfl]
      exact fin w hs
  | noughts t k kx m hxT ht hx g0 g1 g2 hn hl =>
    subst hx
    have hw := wrap_small g0 (by omega : m ≤ 2 ^ 48)
    have c1 : ¬ m < 0 := by omega
    have c2 : ¬ 281474976710656 < m * (i.bytes : Int) := by omega
    unfold Builtin.append_
    simp [h0, hxT, hu, ht, underlying_eq, sizeOf_of hsz, typeInfo_eq, hi, asInt, asIntOf, hw, c1, c2]
    rw [← hn, if_pos hle]
    subst hl
    by_cases hz0 : n * i.size = 0
    · rw [if_pos hz0] at hs
      rw [if_pos (by simpa using hz0)]
      rcases hs with ⟨rfl, rfl⟩ | ⟨a, rfl, hq⟩
      · rfl
      · simp [hq]
    · rw [if_neg hz0] at hs
      rw [if_neg (by simpa using hz0)]
      simp [zeroValue_of hzz, zeroCells_eq]
      exact fin' w hs
theorem append_new (h0 : ats[0]? = some sT) (hu : P.underlying sT = some (.slice el)) (hi : P.info? el = some i) (hz : i.zero = some z) (ha : Adds P ats[1]? i z x n l w.heap) (hgt : ¬ sLen + n ≤ sCap)
    (hb : 0 < i.bytes) (hsm : (4 * (sLen + n) + 2000) * i.bytes ≤ 2 ^ 48) {old : List Value} (ho : ∀ w2 : World, w2.heap = w.heap → (Builtin.firstCells i.size sLen (.slice base sLen sCap)).run P w2 = .ok ⟨old⟩ w2) :
    ∃ newCap, sLen + n ≤ newCap ∧
    (Builtin.append_ ats ty #[.slice base sLen sCap, x]).run P w =
      ((newRow el (old ++ (l ++ zerosL z.cells ((newCap - (sLen + n)) * z.cells.size))).toArray).run P w.drew).andThen fun a w' => .ok (.slice (some a) (sLen + n) newCap) w' := by
  have hsz : sizeT P el = some i.size := by unfold sizeT; rw [hi]; rfl
  have hzz : (P.info? el).bind (·.zero) = some z := by rw [hi]; exact hz
  have hcap := nextslicecap_le (newLen := sLen + n) (oldCap := sCap) (by omega)
  have hbig : ¬ 281474976710656 < Builtin.nextslicecap (sLen + n) sCap * i.bytes := by
    have := Nat.mul_le_mul_right i.bytes hcap
    omega
  have hsm2 : 4 * (sLen + n) + 2000 ≤ 281474976710656 := by
    have := Nat.le_mul_of_pos_right (4 * (sLen + n) + 2000) hb
    omega
  have hforced : (Question.appendCap (sLen + n) sCap el).forced = false := rfl
  have hge := cut_ge (sLen + n) sCap el (w.tape w.drawn (Question.appendCap (sLen + n) sCap el))
  generalize hnc : (Question.appendCap (sLen + n) sCap el).cut (w.tape w.drawn (Question.appendCap (sLen + n) sCap el)) = nc at hge
  refine ⟨nc, hge, ?_⟩
  have ho' := ho w.drew rfl
  have hb0 : ¬ i.bytes = 0 := by omega
  have hneed : ¬ (9223372036854775807 : Int) < (sLen : Int) + (n : Int) := by omega
  cases ha with
  | elems hxT hn hl =>
    have hl' := hl w.drew rfl
    rcases hxT with hxT | ⟨t, hxT, hd⟩ | ⟨t, e, hxT, hd⟩ <;>
    · unfold Builtin.append_
      simp [underlying_eq, sizeOf_of hsz, typeInfo_eq, zeroValue_of hzz, zeroCells_eq, *]
  | noughts t k kx m hxT ht hx g0 g1 g2 hn hl =>
    subst hx
    have hw := wrap_small g0 (by omega : m ≤ 2 ^ 48)
    have c1 : ¬ m < 0 := by omega
    have c2 : ¬ 281474976710656 < m * (i.bytes : Int) := by omega
    subst hn
    have hmt : ((m.toNat : Nat) : Int) = m := by omega
    have hneed' : ¬ (9223372036854775807 : Int) < (sLen : Int) + m := by omega
    have hmax : max m 0 = m := by omega
    unfold Builtin.append_
    by_cases hz0 : m.toNat * i.size = 0
    · rw [if_pos hz0] at hl
      subst hl
      simp [h0, hxT, hu, ht, underlying_eq, sizeOf_of hsz, typeInfo_eq, hi, asInt, asIntOf, hw, c1, c2, hgt, hbig, hb0, hneed', hforced, hnc, zeroValue_of hzz, zeroCells_eq, ho', hmax, -Int.toNat_eq_zero, hz0]
    · rw [if_neg hz0] at hl
      subst hl
      simp [h0, hxT, hu, ht, underlying_eq, sizeOf_of hsz, typeInfo_eq, hi, asInt, asIntOf, hw, c1, c2, hgt, hbig, hb0, hneed', hforced, hnc, zeroValue_of hzz, zeroCells_eq, ho', hmax, -Int.toNat_eq_zero, hz0]
end
end Go.Am
namespace Go.Am
open Go
theorem addedA_sound {P : Program} {φ : Inj} {H : AHeap} {w : World} (em : Emb P φ H w) {i : TypeInfo} {z x x' : Value} {xT : Option TypeId} {n : Nat} {l : List Value}
    (hpl : z.cells.toList.all (plain 1) = true) (hx : VR φ x x') (hsz : l.length = n * i.size) (h : addedA P H z.cells i.size i.bytes xT x = some (n, l)) :
    ∃ l', Adds P xT i z x' n l' w.heap ∧ VRs φ l l' := by
  unfold addedA at h
  simp only [] at h
  have elems : ∀ (hz : xT = none ∨ (∃ t, xT = some t ∧ P.underlying t = some .string) ∨ ∃ t e, xT = some t ∧ P.underlying t = some (.slice e)),
      elemsA H i.size x = some (n, l) → ∃ l', Adds P xT i z x' n l' w.heap ∧ VRs φ l l' := by
    intro hz h
    unfold elemsA at h
    split at h
    · rename_i m hm
      cases hf : firstA H i.size m x with
      | none => rw [hf] at h; cases h
      | some r =>
        rw [hf] at h; simp at h; obtain ⟨rfl, rfl⟩ := h
        obtain ⟨l', h1, h2⟩ := firstA_sound (P := P) em hx hf
        exact ⟨l', .elems hz (fun w => lenA_sound hx hm w) (fun w2 hw => h1 w2 hw), h2⟩
    · cases h
  cases xT with
  | none => exact elems (.inl rfl) h
  | some t =>
    simp only [] at h
    cases hd : P.underlying t with
    | none => rw [hd] at h; cases h
    | some d =>
      rw [hd] at h
      cases d <;> simp only [] at h <;> try (cases h; done)
      case string => exact elems (.inr (.inl ⟨t, rfl, hd⟩)) h
      case slice e => exact elems (.inr (.inr ⟨t, e, rfl, hd⟩)) h
      case int k =>
        split at h
        · rename_i kx m
          split at h
          · rename_i hc
            simp at h; obtain ⟨rfl, rfl⟩ := h
            cases hx
            rw [zerosL_length] at hsz
            refine ⟨_, .noughts t k kx m rfl hd rfl hc.1 hc.2.1 hc.2.2 rfl rfl, ?_⟩
            split
            · rename_i h0
              rw [h0] at hsz
              rw [hsz]
              simpa [zerosL] using VRs.nil
            · exact zerosL_plain _ hpl
          · cases h
        · cases h
theorem append_row (el : TypeId) (l : List Value) (P : Program) (w : World) : (newRow el l.toArray).run P w = .ok ⟨w.heap.size, 0, none⟩ { w with heap := w.heap.push (.cells l.toArray el) } := by
  unfold newRow; simp
theorem appendA_sound {P : Program} {φ : Inj} {H H' : AHeap} {w : World} (em : Emb P φ H w) {ats : Array TypeId} {ty : TypeId} {vs vs' : List Value} {r : Value} (hvs : VRs φ vs vs') (h : appendA P H ats vs = some (r, H')) :
    ∃ φ' w' v', (Builtin.append_ ats ty ⟨vs'⟩).run P w = .ok v' w' ∧ VR φ' r v' ∧ Emb P φ' H' w' ∧ Step φ H w φ' H' w' := by
  unfold appendA at h
  split at h
  case h_2 => cases h
  rename_i sT base sLen sCap x h0
  cases hvs with
  | cons _ s' _ _ hs hrest =>
  cases hrest with
  | cons _ x' _ _ hx hnil =>
  cases hnil
  split at h
  case h_2 => cases h
  rename_i el hu
  split at h
  case h_2 => cases h
  rename_i i hi
  split at h
  case h_2 => cases h
  rename_i z hz
  split at h
  case isFalse => cases h
  rename_i hc
  obtain ⟨hsize, hbytes, hzs, hpl⟩ := hc
  split at h
  case h_2 => cases h
  rename_i n new hadd
  split at h
  case isFalse => cases h
  rename_i hc2
  obtain ⟨hlen, hsm⟩ := hc2
  obtain ⟨new', hA, hnew⟩ := addedA_sound em hpl hx hlen hadd
  have hnl := hnew.length
  have hsz : sizeT P el = some i.size := by unfold sizeT; rw [hi]; rfl
  have hn0 : n = 0 → new' = [] := by
    intro h0
    rw [h0, Nat.zero_mul] at hlen
    rw [hlen] at hnl
    exact List.length_eq_zero_iff.1 hnl.symm
  split at h
  · rename_i hunk
    subst hunk
    split at h
    case h_2 => cases h
    rename_i b
    split at h
    case h_2 => cases h
    rename_i c t ex ver ho
    split at h
    case isFalse => cases h
    rename_i hc3
    obtain ⟨rfl, hsl⟩ := hc3
    cases hs with
    | slice _ _ _ _ _ hc => exact absurd rfl hc
    | sliceUnk _ e _ cap he hle ht =>
      simp only [] at he ht
      obtain ⟨e', o', he', ho', hor⟩ := em.obj _ _ ho
      rw [he] at he'; cases he'
      have hes : e.esz = i.size := by have := hor.size; rw [hsz] at this; exact (Option.some.inj this).symm
      rw [hes] at ht
      have hoo := hor
      cases o' <;> simp only [OR] at hor
      rename_i c' t' fr
      obtain ⟨ht', hf, htot, _, hcl, hcv, hex⟩ := hor
      subst ht'
      have hsub : ∀ m : Nat, m * i.size ≤ e.total → m ≤ cap := by
        intro m hm
        rw [← ht, Nat.zero_add] at hm
        exact Nat.le_of_mul_le_mul_right hm hsize
      split at h
      · rename_i hin
        have hcap : sLen + n ≤ cap := hsub _ (by omega)
        split at h
        · rename_i hnz
          simp at h; obtain ⟨rfl, rfl⟩ := h
          refine ⟨φ, w, _, append_in (w' := w) h0 hu hi hz hA hcap (.inr ⟨_, rfl, by rw [hn0 hnz]; rfl⟩), ?_, em, Step.refl _ _ _⟩
          rw [hnz, Nat.add_zero]
          exact .sliceUnk _ e _ _ he (by omega) (by rw [hes]; exact ht)
        · cases hw : wrRow H ⟨b, sLen * i.size, none⟩ new with
          | none => rw [hw] at h; cases h
          | some H₂ =>
            rw [hw] at h; simp at h; obtain ⟨rfl, rfl⟩ := h
            obtain ⟨w', g1, g2, g3⟩ := wrRow_sound em (a' := ⟨e.blk, sLen * i.size, none⟩) ⟨e, he, rfl⟩ hnew hw
            refine ⟨φ, w', _, append_in (w' := w') h0 hu hi hz hA hcap (.inr ⟨_, rfl, ?_⟩), ?_, g2, g3⟩
            · rw [add_off]; simpa using g1
            · exact .sliceUnk _ e _ _ he (by omega) (by rw [hes]; exact ht)
      · rename_i hout
        split at h
        case isFalse => cases h
        rename_i hc4
        obtain ⟨rfl, hone⟩ := hc4
        simp at h; obtain ⟨rfl, rfl⟩ := h
        by_cases hcap : sLen + n ≤ cap
        · -- in place
          have hfit : sLen * i.size + new'.length ≤ c'.size := by
            rw [← hnl, hlen, htot, ← ht, Nat.zero_add, ← Nat.add_mul]
            exact Nat.mul_le_mul_right _ hcap
          have hrun := run_storeCells_free P e.blk (sLen * i.size) t' fr new' 0 c' w ho' (by rw [htot]; exact hf) (by simpa using hfit) (hnew.oneCell hone)
          simp only [Nat.add_zero] at hrun
          obtain ⟨q1, q2⟩ := step_renew (c₂ := c.take (sLen * i.size) ++ new) (el := t') em ho he rfl (w' := w.setRow e.blk (c'.toList.take (sLen * i.size) ++ new' ++ c'.toList.drop (sLen * i.size + new'.length)).toArray)
            rfl rfl rfl (by simp [World.setRow]) (setRow_heap w e.blk c' _ t' fr ho') (fun b hb => setRow_other w _ _ b hb) (by
              refine ⟨rfl, hf, ?_, hoo.size, ?_, ?_, fun x => by cases x⟩
              · simp; omega
              · simp; omega
              · have h1 : (c.take (sLen * i.size) ++ new).length = sLen * i.size + new'.length := by simp; omega
                rw [h1]
                have h2 : ((c'.toList.take (sLen * i.size) ++ new' ++ c'.toList.drop (sLen * i.size + new'.length)).take (sLen * i.size + new'.length)) = (c'.toList.take c.length).take (sLen * i.size) ++ new' := by
                  have e1 : (c'.toList.take (sLen * i.size) ++ new').length = sLen * i.size + new'.length := by simp; omega
                  rw [List.take_append, List.take_of_length_le (by omega), e1, Nat.sub_self, List.take_zero, List.append_nil, List.take_take, Nat.min_eq_left (by omega)]
                show VRs φ _ ((c'.toList.take (sLen * i.size) ++ new' ++ c'.toList.drop (sLen * i.size + new'.length)).take (sLen * i.size + new'.length))
                rw [h2]
                exact (hcv.take _).append hnew)
          refine ⟨_, _, _, append_in h0 hu hi hz hA hcap (.inr ⟨_, rfl, ?_⟩), ?_, q1, q2⟩
          · rw [add_off]; simpa using hrun
          · refine .sliceUnk ⟨H.n, 0, none⟩ e _ _ (by simp) (by omega) (by rw [hes]; exact ht)
        · -- a new row
          have hrd : rdRow H ⟨b, 0, none⟩ (sLen * i.size) = some (c.take (sLen * i.size)) := by
            unfold rdRow row
            simp [ho, hsl]
          obtain ⟨old', ho1, ho2, ho3⟩ := rdRow_sound (P := P) em (a' := ⟨e.blk, 0, none⟩) ⟨e, he, rfl⟩ hrd
          obtain ⟨nc, hnc, hrun⟩ := append_new (ty := ty) (base := some ⟨e.blk, 0, none⟩) h0 hu hi hz hA hcap hbytes hsm (old := old') (fun w2 hw2 => by
            simp only [Builtin.firstCells]; exact ho1 w2 (by rw [hw2]))
          obtain ⟨k1, k2⟩ := step_kill em b (AHeap.lt_of_get ho)
          have em1 : Emb P φ (H.set b none) w.drew := k1.of_heap rfl
          have hol := ho2.length
          obtain ⟨q1, q2⟩ := step_new (c := c.take (sLen * i.size) ++ new) (c' := (old' ++ (new' ++ zerosL z.cells ((nc - (sLen + n)) * z.cells.size))).toArray) (exact := false) em1 hsz
            (by simp [zerosL_length] at *; omega)
            (by
              have h1 : (c.take (sLen * i.size) ++ new).length = (old' ++ new').length := by simp at *; omega
              rw [h1]
              show VRs φ _ ((old' ++ (new' ++ zerosL z.cells ((nc - (sLen + n)) * z.cells.size))).take _)
              rw [← List.append_assoc, List.take_left]
              exact ho2.append hnew)
            (fun x => by cases x)
          rw [append_row] at hrun
          refine ⟨_, _, _, hrun, ?_, by simpa using q1, ?_⟩
          · refine .sliceUnk ⟨H.n, 0, none⟩ ⟨w.heap.size, (old' ++ (new' ++ zerosL z.cells ((nc - (sLen + n)) * z.cells.size))).toArray.size, i.size⟩ _ _ (by simp [AHeap.set_n]) hnc ?_
            have : (old' ++ new').length = (sLen + n) * i.size := by
              have := ho3
              simp at *; rw [Nat.add_mul]; omega
            simp only [Nat.zero_add]
            simp [zerosL_length] at *
            rw [hzs, Nat.sub_mul]
            have := Nat.mul_le_mul_right i.size hnc
            omega
          · have s1 := Step.trans em k1 k2 (Step.of_heap φ (H.set b none) (w' := w.drew) rfl rfl rfl rfl)
            have := Step.trans em em1 s1 q2
            simpa using this
  · rename_i hunk
    split at h
    · rename_i hle
      have fin : ∀ s', VR φ (.slice base sLen sCap) s' → ∃ base', s' = .slice base' sLen sCap ∧ VR φ (.slice base (sLen + n) sCap) (.slice base' (sLen + n) sCap) ∧ (∀ a, base = some a → ∃ a', base' = some a' ∧ AddrR φ a a') ∧ (base = none → base' = none) := by
        intro s' hs
        cases hs with
        | sliceNil => exact ⟨none, rfl, .sliceNil _ _, (fun a ha => by cases ha), (fun _ => rfl)⟩
        | slice a a' _ _ ha hc => exact ⟨some a', rfl, .slice _ _ _ _ ha hc, (fun b hb => by cases hb; exact ⟨a', rfl, ha⟩), (fun x => by cases x)⟩
        | sliceUnk => exact absurd rfl hunk
      obtain ⟨base', rfl, hr, hb, hbn⟩ := fin s' hs
      split at h
      · rename_i hnz
        simp at h; obtain ⟨rfl, rfl⟩ := h
        refine ⟨φ, w, _, append_in (w' := w) h0 hu hi hz hA hle ?_, by simpa [hnz] using hr, em, Step.refl _ _ _⟩
        cases base' with
        | none => exact .inl ⟨rfl, rfl⟩
        | some a' => exact .inr ⟨a', rfl, by rw [hn0 hnz]; rfl⟩
      · split at h
        case h_2 => cases h
        rename_i a
        obtain ⟨a', rfl, ha⟩ := hb a rfl
        cases hw : wrRow H (a.add (sLen * i.size)) new with
        | none => rw [hw] at h; cases h
        | some H₂ =>
          rw [hw] at h; simp at h; obtain ⟨rfl, rfl⟩ := h
          obtain ⟨w', g1, g2, g3⟩ := wrRow_sound em (ha.add (sLen * i.size)) hnew hw
          exact ⟨φ, w', _, append_in (w' := w') h0 hu hi hz hA hle (.inr ⟨a', rfl, g1⟩), hr, g2, g3⟩
    · rename_i hgt
      split at h
      case h_2 => cases h
      rename_i old hold
      split at h
      case isFalse => cases h
      rename_i hol0
      cases hn : newA P H el (old ++ new) false with
      | none => rw [hn] at h; cases h
      | some q =>
        obtain ⟨a, H₂⟩ := q
        rw [hn] at h; simp at h; obtain ⟨rfl, rfl⟩ := h
        obtain ⟨old', ho1, ho2⟩ := firstA_sound (P := P) em hs hold
        obtain ⟨base', rfl⟩ : ∃ base', s' = .slice base' sLen sCap := by
          cases hs with
          | sliceNil => exact ⟨none, rfl⟩
          | slice a a' _ _ ha hc => exact ⟨_, rfl⟩
          | sliceUnk => exact absurd rfl hunk
        obtain ⟨nc, hnc, hrun⟩ := append_new (ty := ty) h0 hu hi hz hA hgt hbytes hsm (old := old') ho1
        have hol := ho2.length
        have em1 : Emb P φ H w.drew := em.of_heap rfl
        rw [append_row] at hrun
        have h1 : (old ++ new).length = (old' ++ new').length := by simp; omega
        obtain ⟨φ', w', a', esz, q1, q2, q3, q4, q5, q6, q7⟩ := newA_sound (c' := (old' ++ (new' ++ zerosL z.cells ((nc - (sLen + n)) * z.cells.size))).toArray) em1
          (by simp [zerosL_length] at *; omega)
          (by
            rw [h1]
            show VRs φ _ ((old' ++ (new' ++ zerosL z.cells ((nc - (sLen + n)) * z.cells.size))).take _)
            rw [← List.append_assoc, List.take_left]
            exact ho2.append hnew)
          (fun x => by cases x) hn
        rw [append_row] at q1
        simp only [Result.ok.injEq] at q1
        obtain ⟨rfl, rfl⟩ := q1
        subst q6
        rw [hsz] at q5; cases q5
        refine ⟨φ', _, _, hrun, ?_, q3, Step.trans em em1 (Step.of_heap φ H (w' := w.drew) rfl rfl rfl rfl) q4⟩
        refine .sliceUnk ⟨H.n, 0, none⟩ _ _ _ q7 hnc ?_
        simp only [Nat.zero_add]
        simp [zerosL_length] at *
        rw [hzs, Nat.sub_mul]
        have := Nat.mul_le_mul_right i.size hnc
        rw [Nat.add_mul] at *
        omega
end Go.Am
namespace Go.Am
open Go
def copyA (P : Program) (H : AHeap) (ats : Array TypeId) (vs : List Value) : Option (Value × AHeap) :=
  match ats[0]?, vs with
  | some dT, [.slice base dLen _, src] => match P.underlying dT with
    | some (.slice el) => match sizeT P el, lenA src with
      | some size, some m => match firstA H size (Nat.min m dLen) src with
        | some cells => match base with
          | some a => if cells = [] then some (goInt (Nat.min m dLen : Nat), H) else (wrRow H a cells).map fun H' => (goInt (Nat.min m dLen : Nat), H')
          | none => some (goInt (Nat.min m dLen : Nat), H)
        | none => none
      | _, _ => none
    | _ => none
  | _, _ => none
theorem copyA_sound {P : Program} {φ : Inj} {H H' : AHeap} {w : World} (em : Emb P φ H w) {ats : Array TypeId} {ty : TypeId} {vs vs' : List Value} {r : Value} (hvs : VRs φ vs vs') (h : copyA P H ats vs = some (r, H')) :
    ∃ w' v', (Builtin.copy_ ats ty ⟨vs'⟩).run P w = .ok v' w' ∧ VR φ r v' ∧ Emb P φ H' w' ∧ Step φ H w φ H' w' := by
  unfold copyA at h
  split at h
  case h_2 => cases h
  rename_i dT base dLen dCap src h0
  cases hvs with
  | cons _ s' _ _ hs hrest =>
  cases hrest with
  | cons _ x' _ _ hx hnil =>
  cases hnil
  split at h
  case h_2 => cases h
  rename_i el hu
  split at h
  case h_2 => cases h
  rename_i size m hsz hm
  split at h
  case h_2 => cases h
  rename_i cells hc
  obtain ⟨cells', h1, h2⟩ := firstA_sound (P := P) em hx hc
  have hlen := fun w => lenA_sound (P := P) hx hm w
  have run : ∀ (base' : Option Addr) (cap' : Nat) (w' : World), s' = .slice base' dLen cap' → (base' = none ∧ w' = w ∨ ∃ a', base' = some a' ∧ (storeCells a' cells').run P w = .ok () w') →
      (Builtin.copy_ ats ty ⟨[s', x']⟩).run P w = .ok (goInt (Nat.min m dLen : Nat)) w' := by
    intro base' cap' w' hs' hst
    subst hs'
    unfold Builtin.copy_
    rcases hst with ⟨rfl, rfl⟩ | ⟨a', rfl, hst⟩
    · simp [h0, underlying_eq, hu, hlen, sizeOf_of hsz, h1]
    · simp [h0, underlying_eq, hu, hlen, sizeOf_of hsz, h1, hst]
  split at h
  · rename_i a
    have fin : ∃ a' cap', s' = .slice (some a') dLen cap' ∧ AddrR φ a a' := by
      cases hs with
      | slice _ a' _ _ ha _ => exact ⟨a', _, rfl, ha⟩
      | sliceUnk _ e _ c he _ _ => exact ⟨_, _, rfl, e, he, rfl⟩
    obtain ⟨a', cap', hs', ha⟩ := fin
    split at h
    · rename_i hnil
      simp at h; obtain ⟨rfl, rfl⟩ := h
      subst hnil
      cases h2
      exact ⟨w, _, run _ _ w hs' (.inr ⟨a', rfl, rfl⟩), .int _ _, em, Step.refl _ _ _⟩
    · cases hw : wrRow H a cells with
      | none => rw [hw] at h; cases h
      | some H₂ =>
        rw [hw] at h; simp at h; obtain ⟨rfl, rfl⟩ := h
        obtain ⟨w', g1, g2, g3⟩ := wrRow_sound em ha h2 hw
        exact ⟨w', _, run _ _ w' hs' (.inr ⟨a', rfl, g1⟩), .int _ _, g2, g3⟩
  · simp at h; obtain ⟨rfl, rfl⟩ := h
    cases hs
    exact ⟨w, _, run _ _ w rfl (.inl ⟨rfl, rfl⟩), .int _ _, em, Step.refl _ _ _⟩
def Named (P : Program) : Prop := ∀ (g : FuncId) (fn : Func), P.funcs[g]? = some fn → fn.body.isSome = true → (fn.name == "runtime.NumGoroutine") = false
def hasBody (P : Program) (g : FuncId) : Bool := ((P.funcs[g]?).bind (·.body)).isSome
theorem callFunc_run {P : Program} (hN : Named P) {g : FuncId} (hb : hasBody P g = true) (args : Array Value) (w : World) : (callFunc g args).run P w = .ok (.enter g args) w := by
  unfold hasBody at hb
  cases hf : P.funcs[g]? with
  | none => rw [hf] at hb; cases hb
  | some fn =>
    rw [hf] at hb; simp only [Option.bind_some] at hb
    have hn := hN g fn hf hb
    unfold callFunc
    have hb' : fn.body.isNone = false := by cases h : fn.body <;> simp_all
    simp only [Sem.run_bind, run_program, Result.andThen_ok, hf]
    rw [if_neg (by rw [hn]; simp), if_neg (by rw [hb']; simp)]
    rfl
def followV (P : Program) : List FieldStep → TypeId → Value → Option (TypeId × Value)
  | [], t, x => some (t, x)
  | s :: rest, _, .agg ⟨c⟩ =>
    if s.deref then none else
    match P.underlying s.struct with
    | some (.struct fs) => match fs[s.index]? with
      | some f => (partA P f.type c f.offset).bind fun v => followV P rest f.type v
      | none => none
    | _ => none
  | _, _, _ => none
theorem followV_sound {P : Program} {φ : Inj} : ∀ {path : List FieldStep} {t : TypeId} {x x' : Value} {r : TypeId × Value}, VR φ x x' → followV P path t x = some r →
    ∃ y', (∀ w, (follow path t (.val x')).run P w = .ok (r.1, .val y') w) ∧ VR φ r.2 y'
  | [], t, x, x', r, hx, h => by
    simp [followV] at h; subst h
    exact ⟨x', fun w => rfl, hx⟩
  | s :: rest, t, x, x', r, hx, h => by
    cases hx <;> simp only [followV] at h <;> try (cases h; done)
    rename_i c c' hc
    split at h
    · cases h
    · rename_i hd
      split at h
      · rename_i fs hu
        split at h
        · rename_i f hf
          cases hp : partA P f.type c f.offset with
          | none => rw [hp] at h; cases h
          | some v =>
            rw [hp] at h; simp only [Option.bind_some] at h
            obtain ⟨v', h1, h2⟩ := partA_sound hc hp
            obtain ⟨y', g1, g2⟩ := followV_sound h2 h
            refine ⟨y', fun w => ?_, g2⟩
            simp only [follow, Sem.run_bind, underlying_eq, hu, Result.andThen_ok, hf]
            rw [if_neg hd]
            simp [h1, g1]
        · cases h
      · cases h
def methodV (P : Program) (t : TypeId) (v : Value) (name : String) : Option (FuncId × Value) :=
  match P.info? t with
  | some i => match i.methods.find? (·.name == name) with
    | some m => match followV P m.path.toList t v with
      | some (xt, x) => match m.func with
        | some (f, ptr) => match P.underlying xt with
          | some (.pointer _) => if ptr then some (f, x) else none
          | some _ => if ptr then none else some (f, x)
          | none => none
        | none => none
      | none => none
    | none => none
  | none => none
theorem methodV_sound {P : Program} {φ : Inj} {t : TypeId} {v v' : Value} {name : String} {f : FuncId} {x : Value} (hv : VR φ v v') (h : methodV P t v name = some (f, x)) (n : Nat) :
    ∃ x', (∀ w, (method (n + 1) t v' name).run P w = .ok (f, x') w) ∧ VR φ x x' := by
  unfold methodV at h
  split at h
  case h_2 => cases h
  rename_i i hi
  split at h
  case h_2 => cases h
  rename_i m hm
  split at h
  case h_2 => cases h
  rename_i xt y hf
  obtain ⟨y', h1, h2⟩ := followV_sound hv hf
  split at h
  case h_2 => cases h
  rename_i g ptr hg
  have base : ∀ w, (method (n + 1) t v' name).run P w = ((receiverAt xt (.val y') ptr (if m.path.isEmpty then some ((name.splitOn ".").getLastD name) else none)).run P w).andThen fun r w => .ok (g, r) w := by
    intro w
    unfold method
    simp only [Sem.run_bind, typeInfo_eq, hi, Result.andThen_ok, hm, h1, hg, Sem.run_pure]
  split at h
  · rename_i e hu
    split at h
    · rename_i hp
      simp at h; obtain ⟨rfl, rfl⟩ := h
      refine ⟨y', fun w => ?_, h2⟩
      rw [base]
      subst hp
      unfold receiverAt
      simp [underlying_eq, hu, Place.get]
    · cases h
  · rename_i d hni hu
    split at h
    · cases h
    · rename_i hp
      simp at h; obtain ⟨rfl, rfl⟩ := h
      refine ⟨y', fun w => ?_, h2⟩
      rw [base]
      have : ptr = false := by simpa using hp
      subst this
      unfold receiverAt
      simp only [Sem.run_bind, underlying_eq, hu, Result.andThen_ok]
      cases d <;> first | exact (hni _ hu).elim | simp [Place.get]
  · cases h
theorem VRs.arr_append {φ : Inj} {a b : List Value} {a' b' : Array Value} (h : VRs φ a a'.toList) (k : VRs φ b b'.toList) : VRs φ (a ++ b) (a' ++ b').toList := by
  rw [Array.toList_append]; exact h.append k
def callA (P : Program) (ρ : Operand → Option Value) (c : Call) : Option (FuncId × List Value) :=
  match c.callee with
  | .value f => match ρ f, mapO ρ c.args.toList with
    | some (.func (.func g) ⟨b⟩ ⟨cp⟩), some args => if hasBody P g then some (g, b ++ args ++ cp) else none
    | _, _ => none
  | .invoke recv name => match ρ recv, mapO ρ c.args.toList with
    | some (.iface t v), some args => match methodV P t v name with
      | some (g, x) => if hasBody P g then some (g, x :: args) else none
      | none => none
    | _, _ => none
  | .builtin _ => none
theorem callA_sound {P : Program} {φ : Inj} (hN : Named P) {ρ : Operand → Option Value} {ρ' : Operand → Value} (hρ : ∀ x v, ρ x = some v → VR φ v (ρ' x)) {c : Call} {ty : TypeId} {g : FuncId} {args : List Value}
    (h : callA P ρ c = some (g, args)) :
    ∃ args', (∀ w, (do let d ← resolve ρ' c ty; invoke d.target d.args : Sem Next).run P w = .ok (.enter g args') w) ∧ VRs φ args args'.toList := by
  obtain ⟨callee, as, ats⟩ := c
  unfold callA at h
  cases callee <;> simp only [] at h <;> try (cases h; done)
  case value f =>
    split at h
    · rename_i g' b cp args₀ hf hargs
      split at h
      · rename_i hb
        simp only [Option.some.injEq, Prod.mk.injEq] at h; obtain ⟨rfl, rfl⟩ := h
        have hfr := hρ f _ hf
        have hra := mapO_sound hρ hargs
        generalize hf' : ρ' f = f' at *
        cases hfr with
        | func _ _ b' _ c' hbb hcc =>
          refine ⟨(⟨b'⟩ ++ as.map ρ') ++ ⟨c'⟩, fun w => ?_, ?_⟩
          · simp only [resolve, hf', Deferred.ofValue, Sem.run_bind, Sem.run_pure, Result.andThen_ok, invoke]
            exact callFunc_run hN hb _ w
          · refine VRs.arr_append (VRs.arr_append hbb ?_) hcc
            simpa using hra
      · cases h
    · cases h
  case invoke recv name =>
    split at h
    · rename_i t v args₀ hr hargs
      split at h
      · rename_i g' x hm
        split at h
        · rename_i hb
          simp at h; obtain ⟨rfl, rfl⟩ := h
          have hrr := hρ recv _ hr
          have hra := mapO_sound hρ hargs
          generalize hr' : ρ' recv = r' at *
          cases hrr with
          | iface _ _ v' hv =>
            obtain ⟨x', h1, h2⟩ := methodV_sound hv hm (P.types.size + 99)
            refine ⟨#[x'] ++ as.map ρ', fun w => ?_, ?_⟩
            · have e : (#[Value.iface t v'] ++ as.map ρ').extract 1 (#[Value.iface t v'] ++ as.map ρ').size = as.map ρ' := by
                apply Array.ext'
                simp
                exact List.take_of_length_le (by simp)
              have e0 : (#[Value.iface t v'] ++ as.map ρ')[0]? = some (Value.iface t v') := by
                rw [Array.getElem?_append_left (by simp)]; rfl
              simp only [resolve, hr', Sem.run_bind, Sem.run_pure, Result.andThen_ok, invoke, e0, e, callMethod, run_program]
              have h1' : (method (P.types.size + Made.depth) t v' name).run P w = .ok (g', x') w := h1 w
              rw [h1']
              simp only [Result.andThen_ok]
              exact callFunc_run hN hb _ w
            · rw [Array.toList_append]
              exact .cons _ _ _ _ h2 (by simpa using hra)
        · cases h
      · cases h
    · cases h
end Go.Am
namespace Go.Am
open Go
def deepA (P : Program) (ρ : Operand → Option Value) (H : AHeap) (t : TypeId) (x : Operand) (lo hi mx : Option Operand) : Option Value :=
  match ρ x with
  | some (.slice (some a) _ _) => match H.get a.block with
    | some (some (.cells _ t' _ _ _)) => match P.underlying t with
      | some (.slice el) => if sizeT P t' = sizeT P el then sliceOpV P ρ true t x lo hi mx else none
      | _ => none
    | _ => none
  | _ => none
theorem deepA_sound {P : Program} {φ : Inj} {ρ : Operand → Option Value} {ρ' : Operand → Value} (hρ : ∀ x v, ρ x = some v → VR φ v (ρ' x)) {H : AHeap} {w : World} (em : Emb P φ H w) {t : TypeId} {x : Operand} {lo hi mx : Option Operand} {v : Value}
    (h : deepA P ρ H t x lo hi mx = some v) :
    ∃ v', (∀ w, (Instr.sliceAt t (ρ' x) (lo.map ρ') (hi.map ρ') (mx.map ρ')).run P w = .ok v' w) ∧ VR φ v v' := by
  unfold deepA at h
  split at h
  case h_2 => cases h
  rename_i a l₀ c₀ hx
  split at h
  case h_2 => cases h
  rename_i c t' ex ro ver ho
  split at h
  case h_2 => cases h
  rename_i el hu
  split at h
  case isFalse => cases h
  rename_i hs
  refine sliceOpV_sound (deep := true) hρ (fun _ el' n hu' hs' a' l' c' hx' e he => ?_) h
  rw [hu] at hu'; cases hu'
  rw [hx] at hx'; cases hx'
  obtain ⟨e', o', he', _, hor⟩ := em.obj _ _ ho
  rw [he] at he'; cases he'
  have := hor.size
  rw [hs, hs'] at this
  exact (Option.some.inj this).symm
def execM (P : Program) (ρ : Operand → Option Value) (H : AHeap) (o : Oper) : Option (ANext × AHeap) :=
  match o.op with
  | .alloc t => (allocA P H t).map fun (v, H') => (.value v, H')
  | .box t x => (ρ x).bind fun v => (boxA P H t v).map fun (v, H') => (.value v, H')
  | .buildSlice t n ps => if n < UNK then (partsO ρ ps.toList).bind fun l => (buildSliceA P H t n l).map fun (v, H') => (.value v, H') else none
  | .store t x y => match ρ x, ρ y with
    | some (.pointer (some a)), some v => (wrVar P H t a v).map fun H' => (.skip, H')
    | _, _ => none
  | .makeSlice t l c => match ρ l, ρ c with
    | some l, some c => (makeSliceA P H t l c).map fun (v, H') => (.value v, H')
    | _, _ => none
  | .slice t x lo hi mx => (deepA P ρ H t x lo hi mx).map fun v => (.value v, H)
  | .call { callee := .builtin .append, args, argTypes } => (mapO ρ args.toList).bind fun vs => (appendA P H argTypes vs).map fun (v, H') => (.value v, H')
  | .call { callee := .builtin .copy, args, argTypes } => (mapO ρ args.toList).bind fun vs => (copyA P H argTypes vs).map fun (v, H') => (.value v, H')
  | .call c => (callA P ρ c).map fun (g, args) => (.enter g args, H)
  | .defer c => match c.callee with
    | .value _ => (callA P ρ c).map fun (g, args) => (.dfr g args, H)
    | _ => none
  | _ => none
theorem execM_sound {P : Program} {φ : Inj} (hN : Named P) {ρ : Operand → Option Value} {ρ' : Operand → Value} (hρ : ∀ x v, ρ x = some v → VR φ v (ρ' x)) {H H' : AHeap} {w : World} (em : Emb P φ H w) {o : Oper} {n : ANext}
    (h : execM P ρ H o = some (n, H')) : Out P φ H w n H' (execOp ρ' o) := by
  obtain ⟨dst, op, type, pos, after, guard⟩ := o
  cases op <;> simp only [execM] at h <;> try (cases h; done)
  case alloc t =>
    cases hx : allocA P H t with
    | none => rw [hx] at h; cases h
    | some r =>
      obtain ⟨v, H₂⟩ := r
      rw [hx] at h; simp at h; obtain ⟨rfl, rfl⟩ := h
      obtain ⟨φ', w', v', h1, h2, h3, h4⟩ := allocA_sound em hx
      exact ⟨φ', w', .value v', by simp [execOp, h1], h2, h3, h4⟩
  case box t x =>
    cases hv : ρ x with
    | none => rw [hv] at h; cases h
    | some v =>
      rw [hv] at h; simp only [Option.bind_some] at h
      cases hx : boxA P H t v with
      | none => rw [hx] at h; cases h
      | some r =>
        obtain ⟨v, H₂⟩ := r
        rw [hx] at h; simp at h; obtain ⟨rfl, rfl⟩ := h
        obtain ⟨φ', w', a', h1, h2, h3, h4⟩ := boxA_sound em (hρ x _ hv) hx
        exact ⟨φ', w', .value (.pointer (some a')), by simp [execOp, Instr.box, h1], h2, h3, h4⟩
  case buildSlice t m ps =>
    split at h
    case isFalse => cases h
    rename_i hlt
    cases hp : partsO ρ ps.toList with
    | none => rw [hp] at h; cases h
    | some l =>
      rw [hp] at h; simp only [Option.bind_some] at h
      cases hx : buildSliceA P H t m l with
      | none => rw [hx] at h; cases h
      | some r =>
        obtain ⟨v, H₂⟩ := r
        rw [hx] at h; simp at h; obtain ⟨rfl, rfl⟩ := h
        obtain ⟨φ', w', v', h1, h2, h3, h4⟩ := buildSliceA_sound em (partsO_sound hρ hp) hlt hx
        have e : (ps.map fun (i, x) => (i, ρ' x)) = ⟨ps.toList.map fun (i, x) => (i, ρ' x)⟩ := Array.ext' (by simp)
        refine ⟨φ', w', .value v', ?_, h2, h3, h4⟩
        simp only [execOp, e]
        simp [h1]
  case store t x y =>
    split at h
    · rename_i a v hx hv
      cases hw : wrVar P H t a v with
      | none => rw [hw] at h; cases h
      | some H₂ =>
        rw [hw] at h; simp at h; obtain ⟨rfl, rfl⟩ := h
        have hxr := hρ x _ hx
        generalize hx' : ρ' x = x' at *
        cases hxr with
        | ptr _ a' ha =>
          obtain ⟨w', h1, h2, h3⟩ := wrVar_sound em ha (hρ y _ hv) hw
          exact ⟨φ, w', .skip, by simp [execOp, Instr.storeAt, Instr.sureAddr, hx', h1], trivial, h2, h3⟩
    · cases h
  case makeSlice t l c =>
    split at h
    · rename_i lv cv hl hc
      cases hx : makeSliceA P H t lv cv with
      | none => rw [hx] at h; cases h
      | some r =>
        obtain ⟨v, H₂⟩ := r
        rw [hx] at h; simp at h; obtain ⟨rfl, rfl⟩ := h
        obtain ⟨φ', w', v', h1, h2, h3, h4⟩ := makeSliceA_sound em (hρ l _ hl) (hρ c _ hc) hx
        exact ⟨φ', w', .value v', by simp [execOp, h1], h2, h3, h4⟩
    · cases h
  case slice t x lo hi mx =>
    cases hx : deepA P ρ H t x lo hi mx with
    | none => rw [hx] at h; cases h
    | some v =>
      rw [hx] at h; simp at h; obtain ⟨rfl, rfl⟩ := h
      obtain ⟨v', h1, h2⟩ := deepA_sound hρ em hx
      exact ⟨φ, w, .value v', by simp [execOp, h1], h2, em, Step.refl _ _ _⟩
  case call c =>
    obtain ⟨callee, as, ats⟩ := c
    have viaCall : (callA P ρ ⟨callee, as, ats⟩).map (fun (g, args) => (ANext.enter g args, H)) = some (n, H') → Out P φ H w n H' (execOp ρ' ⟨dst, .call ⟨callee, as, ats⟩, type, pos, after, guard⟩) := by
      intro h
      cases hc : callA P ρ ⟨callee, as, ats⟩ with
      | none => rw [hc] at h; cases h
      | some r =>
        obtain ⟨g, args⟩ := r
        rw [hc] at h; simp at h; obtain ⟨rfl, rfl⟩ := h
        obtain ⟨args', h1, h2⟩ := callA_sound (ty := type) hN hρ hc
        exact ⟨φ, w, .enter g args', by simp only [execOp]; exact h1 w, ⟨rfl, h2⟩, em, Step.refl _ _ _⟩
    cases callee with
    | value f => exact viaCall (by simpa using h)
    | invoke r m => exact viaCall (by simpa using h)
    | builtin b =>
      have e : as.map ρ' = ⟨as.toList.map ρ'⟩ := Array.ext' (by simp)
      cases b <;> simp only [] at h <;> first
        | (simp [callA] at h; done)
        | skip
      case append =>
        cases hm : mapO ρ as.toList with
        | none => rw [hm] at h; cases h
        | some vs =>
          rw [hm] at h; simp only [Option.bind_some] at h
          cases hx : appendA P H ats vs with
          | none => rw [hx] at h; cases h
          | some r =>
            obtain ⟨v, H₂⟩ := r
            rw [hx] at h; simp at h; obtain ⟨rfl, rfl⟩ := h
            obtain ⟨φ', w', v', h1, h2, h3, h4⟩ := appendA_sound (ty := type) em (mapO_sound hρ hm) hx
            refine ⟨φ', w', .value v', ?_, h2, h3, h4⟩
            simp only [execOp, resolve, e]
            simp only [Sem.run_bind, Sem.run_pure, Result.andThen_ok, invoke, builtin]
            rw [h1]; rfl
      case copy =>
        cases hm : mapO ρ as.toList with
        | none => rw [hm] at h; cases h
        | some vs =>
          rw [hm] at h; simp only [Option.bind_some] at h
          cases hx : copyA P H ats vs with
          | none => rw [hx] at h; cases h
          | some r =>
            obtain ⟨v, H₂⟩ := r
            rw [hx] at h; simp at h; obtain ⟨rfl, rfl⟩ := h
            obtain ⟨w', v', h1, h2, h3, h4⟩ := copyA_sound (ty := type) em (mapO_sound hρ hm) hx
            refine ⟨φ, w', .value v', ?_, h2, h3, h4⟩
            simp only [execOp, resolve, e]
            simp only [Sem.run_bind, Sem.run_pure, Result.andThen_ok, invoke, builtin]
            rw [h1]; rfl
  case defer c =>
    obtain ⟨callee, as, ats⟩ := c
    cases callee <;> simp only [] at h <;> try (cases h; done)
    rename_i f
    cases hc : callA P ρ ⟨.value f, as, ats⟩ with
    | none => rw [hc] at h; cases h
    | some r =>
      obtain ⟨g, args⟩ := r
      rw [hc] at h; simp at h; obtain ⟨rfl, rfl⟩ := h
      unfold callA at hc
      simp only [] at hc
      split at hc
      · rename_i g' b cp args₀ hf hargs
        split at hc
        · simp only [Option.some.injEq, Prod.mk.injEq] at hc; obtain ⟨rfl, rfl⟩ := hc
          have hfr := hρ f _ hf
          have hra := mapO_sound hρ hargs
          generalize hf' : ρ' f = f' at *
          cases hfr with
          | func _ _ b' _ c' hbb hcc =>
            refine ⟨φ, w, .defer { target := .fn (.func g') ⟨c'⟩, args := ⟨b'⟩ ++ as.map ρ' }, ?_, ⟨⟨c'⟩, rfl, ?_⟩, em, Step.refl _ _ _⟩
            · simp only [execOp, resolve, hf', Deferred.ofValue, Sem.run_bind, Sem.run_pure, Result.andThen_ok]
            · refine VRs.arr_append (VRs.arr_append hbb ?_) hcc
              simpa using hra
        · cases hc
      · cases hc
def exec (P : Program) (ρ : Operand → Option Value) (H : AHeap) (o : Oper) : Option (ANext × AHeap) :=
  match execV P ρ o with
  | some v => some (.value v, H)
  | none => match execL P ρ H o with
    | some (v, _) => some (.value v, H)
    | none => execM P ρ H o
theorem exec_sound {P : Program} {φ : Inj} (hN : Named P) {ρ : Operand → Option Value} {ρ' : Operand → Value} (hρ : ∀ x v, ρ x = some v → VR φ v (ρ' x)) {H H' : AHeap} {w : World} (em : Emb P φ H w) {o : Oper} {n : ANext}
    (h : exec P ρ H o = some (n, H')) : Out P φ H w n H' (execOp ρ' o) := by
  unfold exec at h
  split at h
  · rename_i v hv
    simp at h; obtain ⟨rfl, rfl⟩ := h
    obtain ⟨v', h1, h2⟩ := execV_sound hρ hv
    exact ⟨φ, w, .value v', h1 w, h2, em, Step.refl _ _ _⟩
  · split at h
    · rename_i v b hl
      simp at h; obtain ⟨rfl, rfl⟩ := h
      obtain ⟨v', e, _, h1, h2⟩ := execL_sound hρ em hl
      exact ⟨φ, w, .value v', h1 w rfl, h2, em, Step.refl _ _ _⟩
    · exact execM_sound hN hρ em h
end Go.Am
namespace Go.Am
open Go
theorem mapO_congr {ρ ρ₂ : Operand → Option Value} : ∀ {l : List Operand}, (∀ x ∈ l, ρ x = ρ₂ x) → mapO ρ l = mapO ρ₂ l
  | [], _ => rfl
  | x :: l, h => by simp only [mapO, h x (by simp), mapO_congr (l := l) fun y hy => h y (by simp [hy])]
theorem partsO_congr {ρ ρ₂ : Operand → Option Value} : ∀ {l : List (Nat × Operand)}, (∀ x ∈ l.map (·.2), ρ x = ρ₂ x) → partsO ρ l = partsO ρ₂ l
  | [], _ => rfl
  | (i, x) :: l, h => by simp only [partsO, h x (by simp), partsO_congr (l := l) fun y hy => h y (by simp only [List.map_cons, List.mem_cons]; exact .inr hy)]
theorem optO_congr {ρ ρ₂ : Operand → Option Value} {x : Option Operand} (h : ∀ y, x = some y → ρ y = ρ₂ y) : optO ρ x = optO ρ₂ x := by
  cases x with
  | none => rfl
  | some y => simp only [optO, h y rfl]
theorem callA_congr {P : Program} {ρ ρ₂ : Operand → Option Value} {c : Call} (h : ∀ x ∈ c.operands, ρ x = ρ₂ x) : callA P ρ c = callA P ρ₂ c := by
  obtain ⟨callee, as, ats⟩ := c
  have ha : mapO ρ as.toList = mapO ρ₂ as.toList := mapO_congr fun x hx => h x (by simp [Call.operands]; exact .inr (by simpa using hx))
  cases callee with
  | value f => simp only [callA, ha, h f (by simp [Call.operands])]
  | invoke r m => simp only [callA, ha, h r (by simp [Call.operands])]
  | builtin b => rfl
theorem exec_congr {P : Program} {ρ ρ₂ : Operand → Option Value} {H : AHeap} {o : Oper} (h : ∀ x ∈ o.op.operands, ρ x = ρ₂ x) :
    execV P ρ o = execV P ρ₂ o ∧ execL P ρ H o = execL P ρ₂ H o ∧ execM P ρ H o = execM P ρ₂ H o := by
  obtain ⟨dst, op, type, pos, after, guard⟩ := o
  cases op
  case slice t x lo hi mx =>
    simp only [Op.operands] at h
    have h1 : ρ x = ρ₂ x := h x (by simp)
    have h2 : optO ρ lo = optO ρ₂ lo := optO_congr fun y hy => h y (by subst hy; simp)
    have h3 : optO ρ hi = optO ρ₂ hi := optO_congr fun y hy => h y (by subst hy; simp)
    have h4 : optO ρ mx = optO ρ₂ mx := optO_congr fun y hy => h y (by subst hy; simp)
    have h5 : ∀ d, sliceOpV P ρ d t x lo hi mx = sliceOpV P ρ₂ d t x lo hi mx := fun d => by simp only [sliceOpV, h1, h2, h3, h4]
    refine ⟨by simp only [execV, h5], rfl, ?_⟩
    simp only [execM, deepA, h1, h5]
  case build t ps =>
    simp only [Op.operands] at h
    refine ⟨?_, rfl, rfl⟩
    simp only [execV]
    rw [partsO_congr fun x hx => h x (by simpa using hx)]
  case buildSlice t n ps =>
    simp only [Op.operands] at h
    refine ⟨rfl, rfl, ?_⟩
    simp only [execM]
    rw [partsO_congr fun x hx => h x (by simpa using hx)]
  case makeFunc fn b c =>
    simp only [Op.operands] at h
    refine ⟨?_, rfl, rfl⟩
    have h1 : mapO ρ b.toList = mapO ρ₂ b.toList := mapO_congr fun x hx => h x (by simp; exact .inl (by simpa using hx))
    have h2 : mapO ρ c.toList = mapO ρ₂ c.toList := mapO_congr fun x hx => h x (by simp; exact .inr (by simpa using hx))
    cases fn <;> simp only [execV, h1, h2]
  case call c =>
    have h' : ∀ x ∈ c.operands, ρ x = ρ₂ x := h
    have hc := callA_congr (P := P) h'
    obtain ⟨callee, as, ats⟩ := c
    have ha : mapO ρ as.toList = mapO ρ₂ as.toList := mapO_congr fun x hx => h' x (by simp [Call.operands]; exact .inr (by simpa using hx))
    cases callee with
    | value f => exact ⟨rfl, rfl, by simp only [execM, hc]⟩
    | invoke r m => exact ⟨rfl, rfl, by simp only [execM, hc]⟩
    | builtin b => refine ⟨by simp only [execV, ha], rfl, ?_⟩; cases b <;> simp only [execM, ha, hc]
  case defer c =>
    have hc := callA_congr (P := P) (h : ∀ x ∈ c.operands, ρ x = ρ₂ x)
    refine ⟨rfl, rfl, ?_⟩
    obtain ⟨callee, as, ats⟩ := c
    cases callee <;> simp only [execM, hc]
  all_goals
    simp only [Op.operands] at h
    first
      | exact ⟨rfl, rfl, rfl⟩
      | (simp at h
         refine ⟨?_, ?_, ?_⟩ <;> simp only [execV, execL, execM, h])
theorem exec_congr' {P : Program} {ρ ρ₂ : Operand → Option Value} {H : AHeap} {o : Oper} (h : ∀ x ∈ o.op.operands, ρ x = ρ₂ x) : exec P ρ H o = exec P ρ₂ H o := by
  obtain ⟨h1, h2, h3⟩ := exec_congr (P := P) (H := H) h
  unfold exec
  rw [h1, h2, h3]
end Go.Am
