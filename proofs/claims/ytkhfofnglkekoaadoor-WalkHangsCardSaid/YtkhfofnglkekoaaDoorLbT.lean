/- Own library, part T: texts' order; rows of keys and values; search trees in the heap. Conditions: none. -/
import Derived.Test.YtkhfofnglkekoaaDoorLbB
namespace Go.Proofs.YtkhfofnglkekoaaDoor

/-! Texts. -/
theorem bl_irr : ∀ x : List UInt8, Op.bytesLess x x = false
  | [] => rfl
  | a :: x => by simp [Op.bytesLess, bl_irr x, UInt8.lt_irrefl]

theorem bl_trans : ∀ x y z : List UInt8, Op.bytesLess x y = true → Op.bytesLess y z = true → Op.bytesLess x z = true
  | x, [], _, h, _ => by cases x <;> simp [Op.bytesLess] at h
  | _, b :: y, [], _, h => by simp [Op.bytesLess] at h
  | [], b :: y, c :: z, _, _ => rfl
  | a :: x, b :: y, c :: z, h1, h2 => by
    simp only [Op.bytesLess, Bool.or_eq_true, decide_eq_true_eq, Bool.and_eq_true, beq_iff_eq] at h1 h2 ⊢
    rcases h1 with h1 | ⟨rfl, h1⟩
    · rcases h2 with h2 | ⟨rfl, _⟩
      · exact .inl (UInt8.lt_trans h1 h2)
      · exact .inl h1
    · rcases h2 with h2 | ⟨rfl, h2⟩
      · exact .inl h2
      · exact .inr ⟨rfl, bl_trans x y z h1 h2⟩

theorem bl_total : ∀ x y : List UInt8, x ≠ y → Op.bytesLess x y = false → Op.bytesLess y x = true
  | [], [], h, _ => absurd rfl h
  | [], _ :: _, _, h => by simp [Op.bytesLess] at h
  | _ :: _, [], _, _ => rfl
  | a :: x, b :: y, h, h1 => by
    simp only [Op.bytesLess, Bool.or_eq_false_iff, decide_eq_false_iff_not, Bool.and_eq_false_iff, beq_eq_false_iff_ne] at h1
    simp only [Op.bytesLess, Bool.or_eq_true, decide_eq_true_eq, Bool.and_eq_true, beq_iff_eq]
    obtain ⟨h2, h3⟩ := h1
    by_cases e : a = b
    · subst e
      refine .inr ⟨rfl, bl_total x y (fun e => h (by rw [e])) ?_⟩
      rcases h3 with h3 | h3
      · exact absurd rfl h3
      · exact h3
    · left
      rcases UInt8.lt_or_lt_of_ne e with h4 | h4
      · exact absurd h4 h2
      · exact h4

theorem toL (a : ByteArray) : a.toList = a.data.toList := ByteArray.toList_eq a
theorem bx {a b : ByteArray} (h : a.data.toList = b.data.toList) : a = b := by
  cases a; cases b; exact congrArg ByteArray.mk (Array.toList_inj.1 h)

theorem lt_irr (a : ByteArray) : strLt a a = false := bl_irr _
theorem lt_tr {a b c : ByteArray} (h1 : strLt a b = true) (h2 : strLt b c = true) : strLt a c = true := bl_trans _ _ _ h1 h2
theorem lt_tot {a b : ByteArray} (h : a ≠ b) (h1 : strLt a b = false) : strLt b a = true := bl_total _ _ (fun e => h (bx (by rw [← toL, ← toL, e]))) h1
theorem lt_asym {a b : ByteArray} (h1 : strLt a b = true) : strLt b a = false := by
  cases h : strLt b a with
  | false => rfl
  | true => have := lt_tr h1 h; rw [lt_irr] at this; cases this
theorem lt_ne {a b : ByteArray} (h1 : strLt a b = true) : a ≠ b := by rintro rfl; rw [lt_irr] at h1; cases h1

/-! Rows of keys and values, rising. -/
abbrev KV := List (ByteArray × ByteArray)

def Rise : KV → Prop := List.Pairwise fun x y => strLt x.1 y.1 = true

def kget (l : KV) (k : ByteArray) : Option ByteArray := match l with | [] => none | (a, b) :: r => if a = k then some b else kget r k
def kset (l : KV) (k v : ByteArray) : KV := match l with | [] => [(k, v)] | (a, b) :: r => if strLt k a then (k, v) :: (a, b) :: r else if k = a then (k, v) :: r else (a, b) :: kset r k v
def kcut (l : KV) (k : ByteArray) : KV := l.filter fun p => decide (p.1 ≠ k)
def krange (l : KV) (a b : ByteArray) : KV := l.filter fun p => !strLt p.1 a && strLt p.1 b

/-! Search trees. -/
inductive Tr where
  | nil
  | node (k v : ByteArray) (l r : Tr)

namespace Tr
def list : Tr → KV
  | .nil => []
  | .node k v l r => l.list ++ (k, v) :: r.list
def size : Tr → Nat
  | .nil => 0
  | .node _ _ l r => 1 + l.size + r.size
def high : Tr → Nat
  | .nil => 0
  | .node _ _ l r => 1 + max l.high r.high
theorem size_list : ∀ t : Tr, t.size = t.list.length
  | .nil => rfl
  | .node k v l r => by simp [size, list, size_list l, size_list r]; omega
theorem high_le : ∀ t : Tr, t.high ≤ t.size
  | .nil => Nat.le_refl _
  | .node k v l r => by have := high_le l; have := high_le r; simp only [high, size]; omega
end Tr

def TreeAt (ty : Nat) (h : Hp) : Option Addr → Tr → Prop
  | p, .nil => p = none
  | p, .node k v l r => ∃ b pl pr, p = some ⟨b, 0, none⟩ ∧ h b = some (.cells #[.string k, .string v, .pointer pl, .pointer pr, .int .i64 (Tr.node k v l r).size, .int .i64 (Tr.node k v l r).high] ty (0, 0)) ∧
      TreeAt ty h pl l ∧ TreeAt ty h pr r

theorem TreeAt.ke {ts : List Nat} {ty : Nat} {h h' : Hp} (ke : Ke ts h h') (m : memN ty ts = false) : ∀ {p : Option Addr} {t : Tr}, TreeAt ty h p t → TreeAt ty h' p t
  | p, .nil, H => H
  | p, .node k v l r, ⟨b, pl, pr, e1, e2, e3, e4⟩ => ⟨b, pl, pr, e1, ke _ _ e2 m, e3.ke ke m, e4.ke ke m⟩

theorem TreeAt.ext {ty : Nat} {h h' : Hp} (e : Ext h h') {p : Option Addr} {t : Tr} (H : TreeAt ty h p t) : TreeAt ty h' p t := H.ke (ts := []) e.ke rfl

theorem TreeAt.nil_iff {ty : Nat} {h : Hp} {p : Option Addr} {t : Tr} (H : TreeAt ty h p t) : p.isNone = true ↔ t = .nil := by
  cases t with
  | nil => have : p = none := H; subst this; simp
  | node k v l r => obtain ⟨b, pl, pr, e1, _⟩ := H; subst e1; simp

/-- A tree that bears a row. -/
def MapAt (ty : Nat) (h : Hp) (p : Option Addr) (l : KV) : Prop := ∃ t, TreeAt ty h p t ∧ t.list = l ∧ Rise l

theorem MapAt.ke {ts : List Nat} {ty : Nat} {h h' : Hp} (ke : Ke ts h h') (m : memN ty ts = false) {p : Option Addr} {l : KV} : MapAt ty h p l → MapAt ty h' p l :=
  fun ⟨t, a, b, c⟩ => ⟨t, a.ke ke m, b, c⟩
theorem MapAt.ext {ty : Nat} {h h' : Hp} (e : Ext h h') {p : Option Addr} {l : KV} (H : MapAt ty h p l) : MapAt ty h' p l := H.ke (ts := []) e.ke rfl

/-! The laws of rows. -/
theorem rise_cons {x : ByteArray × ByteArray} {l : KV} : Rise (x :: l) ↔ (∀ y ∈ l, strLt x.1 y.1 = true) ∧ Rise l := List.pairwise_cons
theorem rise_app {a b : KV} : Rise (a ++ b) ↔ Rise a ∧ Rise b ∧ ∀ x ∈ a, ∀ y ∈ b, strLt x.1 y.1 = true := List.pairwise_append
theorem rise_nil : Rise [] := List.Pairwise.nil

theorem kget_app (a b : KV) (k : ByteArray) : kget (a ++ b) k = match kget a k with | some v => some v | none => kget b k := by
  induction a with
  | nil => rfl
  | cons x a ih =>
    obtain ⟨x1, x2⟩ := x
    simp only [List.cons_append, kget]
    by_cases h : x1 = k
    · simp [h]
    · simp [h, ih]

theorem kget_none {l : KV} {k : ByteArray} (h : ∀ x ∈ l, x.1 ≠ k) : kget l k = none := by
  induction l with
  | nil => rfl
  | cons x l ih =>
    obtain ⟨x1, x2⟩ := x
    simp only [kget]
    rw [if_neg (h (x1, x2) (by simp)), ih fun y hy => h y (by simp [hy])]

theorem kget_some {l : KV} {k v : ByteArray} (h : kget l k = some v) : (k, v) ∈ l := by
  induction l with
  | nil => cases h
  | cons x l ih =>
    obtain ⟨x1, x2⟩ := x
    simp only [kget] at h
    by_cases e : x1 = k
    · rw [if_pos e] at h; cases h; simp [e]
    · rw [if_neg e] at h; simp [ih h]

theorem kget_mem {l : KV} (hl : Rise l) {k v : ByteArray} (h : (k, v) ∈ l) : kget l k = some v := by
  induction l with
  | nil => cases h
  | cons x l ih =>
    obtain ⟨x1, x2⟩ := x
    rw [rise_cons] at hl
    simp only [kget]
    rcases List.mem_cons.1 h with e | h
    · cases e; simp
    · have := lt_ne (hl.1 _ h)
      rw [if_neg this, ih hl.2 h]

/-- Rows that answer alike are alike. -/
theorem rise_ext : ∀ {a b : KV}, Rise a → Rise b → (∀ k, kget a k = kget b k) → a = b
  | [], [], _, _, _ => rfl
  | [], (k, v) :: b, _, hb, h => by have := h k; simp [kget] at this
  | (k, v) :: a, [], _, _, h => by have := h k; simp [kget] at this
  | (k, v) :: a, (k', v') :: b, ha, hb, h => by
    rw [rise_cons] at ha hb
    have hk : k = k' := by
      by_cases e : k = k'
      · exact e
      · exfalso
        have h1 := h k
        have h2 := h k'
        have m1 : kget ((k', v') :: b) k = some v := by rw [← h1]; simp [kget]
        have m2 : kget ((k, v) :: a) k' = some v' := by rw [h2]; simp [kget]
        simp only [kget, if_neg e, if_neg (Ne.symm e)] at m1 m2
        have q1 := hb.1 _ (kget_some m1)
        have q2 := ha.1 _ (kget_some m2)
        have := lt_asym q1
        rw [q2] at this
        cases this
    subst hk
    have hv : v = v' := by have := h k; simpa [kget] using this
    subst hv
    rw [rise_ext ha.2 hb.2 fun j => ?_]
    have := h j
    simp only [kget] at this
    by_cases e : k = j
    · subst e
      rw [kget_none fun x hx => (lt_ne (ha.1 x hx)).symm, kget_none fun x hx => (lt_ne (hb.1 x hx)).symm]
    · simpa only [if_neg e] using this

theorem kset_mem {l : KV} {k v : ByteArray} {x : ByteArray × ByteArray} (h : x ∈ kset l k v) : x = (k, v) ∨ x ∈ l := by
  induction l with
  | nil => simp [kset] at h; exact .inl h
  | cons y l ih =>
    obtain ⟨a, b⟩ := y
    simp only [kset] at h
    split at h
    · rcases List.mem_cons.1 h with h | h
      · exact .inl h
      · exact .inr h
    · split at h
      · rcases List.mem_cons.1 h with h | h
        · exact .inl h
        · exact .inr (by simp [h])
      · rcases List.mem_cons.1 h with h | h
        · exact .inr (by simp [h])
        · exact (ih h).imp id fun h => by simp [h]

theorem kset_rise {l : KV} (hl : Rise l) (k v : ByteArray) : Rise (kset l k v) := by
  induction l with
  | nil => simp [kset, Rise]
  | cons y l ih =>
    obtain ⟨a, b⟩ := y
    have hl' := rise_cons.1 hl
    simp only [kset]
    split
    · rename_i h
      refine rise_cons.2 ⟨fun z hz => ?_, hl⟩
      rcases List.mem_cons.1 hz with rfl | hz
      · exact h
      · exact lt_tr h (hl'.1 z hz)
    · rename_i h
      split
      · rename_i e
        subst e
        exact rise_cons.2 ⟨hl'.1, hl'.2⟩
      · rename_i e
        refine rise_cons.2 ⟨fun z hz => ?_, ih hl'.2⟩
        rcases kset_mem hz with rfl | hz
        · exact lt_tot e (by simpa using h)
        · exact hl'.1 z hz

theorem kget_kset {l : KV} (hl : Rise l) (k v j : ByteArray) : kget (kset l k v) j = if k = j then some v else kget l j := by
  induction l with
  | nil => simp [kset, kget]
  | cons y l ih =>
    obtain ⟨a, b⟩ := y
    have hl' := rise_cons.1 hl
    simp only [kset]
    split
    · simp [kget]
    · split
      · rename_i e
        subst e
        simp only [kget]
        by_cases e : k = j
        · simp [e]
        · simp [e]
      · rename_i h e
        simp only [kget, ih hl'.2]
        by_cases e1 : a = j
        · subst e1
          simp [e]
        · simp [e1]

theorem kcut_rise {l : KV} (hl : Rise l) (k : ByteArray) : Rise (kcut l k) := List.Pairwise.filter _ hl
theorem kget_kcut {l : KV} (k j : ByteArray) : kget (kcut l k) j = if k = j then none else kget l j := by
  induction l with
  | nil => simp [kcut, kget]
  | cons y l ih =>
    obtain ⟨a, b⟩ := y
    unfold kcut at ih ⊢
    simp only [List.filter_cons]
    by_cases e : a = k
    · subst e
      simp only [ne_eq, not_true_eq_false, decide_false, Bool.false_eq_true, if_false, ih, kget]
      by_cases e : a = j
      · simp [e]
      · simp [e]
    · simp only [ne_eq, e, not_false_eq_true, decide_true, if_true, kget, ih]
      by_cases e1 : a = j
      · subst e1; simp [Ne.symm e]
      · simp [e1]

theorem kset_len (l : KV) (k v : ByteArray) : (kset l k v).length ≤ l.length + 1 := by
  induction l with
  | nil => simp [kset]
  | cons y l ih =>
    obtain ⟨a, b⟩ := y
    simp only [kset]
    split
    · simp
    · split
      · simp
      · simp; omega
theorem kcut_len (l : KV) (k : ByteArray) : (kcut l k).length ≤ l.length := List.length_filter_le _ _

end Go.Proofs.YtkhfofnglkekoaaDoor
