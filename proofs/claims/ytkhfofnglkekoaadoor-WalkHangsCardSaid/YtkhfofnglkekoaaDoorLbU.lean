/- Own library, part U: what the search tree's functions do, without memory. Conditions: none. -/
import Derived.Test.YtkhfofnglkekoaaDoorLbC
namespace Go.Proofs.YtkhfofnglkekoaaDoor

namespace Tr
def lean : Tr → Int
  | .nil => 0
  | .node _ _ l r => (l.high : Int) - r.high
def turnL : Tr → Tr
  | .node k v l (.node k2 v2 rl rr) => .node k2 v2 (.node k v l rl) rr
  | t => t
def turnR : Tr → Tr
  | .node k v (.node k2 v2 ll lr) r => .node k2 v2 ll (.node k v lr r)
  | t => t
def join (k v : ByteArray) (l r : Tr) : Tr :=
  if (l.high : Int) - r.high > 1 then (if l.lean < 0 then (Tr.node k v l.turnL r).turnR else (Tr.node k v l r).turnR)
  else if (l.high : Int) - r.high < -1 then (if r.lean > 0 then (Tr.node k v l r.turnR).turnL else (Tr.node k v l r).turnL)
  else .node k v l r

theorem turnL_list (t : Tr) : t.turnL.list = t.list := by
  cases t with
  | nil => rfl
  | node k v l r => cases r with
    | nil => rfl
    | node k2 v2 rl rr => simp [turnL, list]
theorem turnR_list (t : Tr) : t.turnR.list = t.list := by
  cases t with
  | nil => rfl
  | node k v l r => cases l with
    | nil => rfl
    | node k2 v2 rl rr => simp [turnR, list]
theorem join_list (k v : ByteArray) (l r : Tr) : (join k v l r).list = l.list ++ (k, v) :: r.list := by
  unfold join
  split
  · split <;> simp [turnR_list, turnL_list, list]
  · split
    · split <;> simp [turnR_list, turnL_list, list]
    · rfl
theorem join_size (k v : ByteArray) (l r : Tr) : (join k v l r).size = 1 + l.size + r.size := by
  rw [size_list, join_list, size_list, size_list]; simp; omega

def set (k v : ByteArray) : Tr → Tr
  | .nil => .node k v .nil .nil
  | .node a b l r => if strLt k a then join a b (set k v l) r else if !(strLt k a || decide (k = a)) then join a b l (set k v r) else .node k v l r

theorem kset_left {a : KV} {x : ByteArray × ByteArray} {b : KV} {k v : ByteArray} (h : strLt k x.1 = true) : kset (a ++ x :: b) k v = kset a k v ++ x :: b := by
  induction a with
  | nil =>
    obtain ⟨x1, x2⟩ := x
    simp only [List.nil_append, kset]
    rw [if_pos h]; rfl
  | cons y a ih =>
    obtain ⟨y1, y2⟩ := y
    simp only [List.cons_append, kset]
    split
    · rfl
    · split
      · rfl
      · rw [ih]; rfl
theorem kset_right {a : KV} {b : KV} {k v : ByteArray} (h : ∀ y ∈ a, strLt y.1 k = true) : kset (a ++ b) k v = a ++ kset b k v := by
  induction a with
  | nil => rfl
  | cons y a ih =>
    obtain ⟨y1, y2⟩ := y
    have h1 : strLt y1 k = true := h (y1, y2) (by simp)
    simp only [List.cons_append, kset]
    rw [if_neg (by rw [lt_asym h1]; simp), if_neg (lt_ne h1).symm, ih fun z hz => h z (by simp [hz])]

theorem set_list (k v : ByteArray) : ∀ t : Tr, Rise t.list → (set k v t).list = kset t.list k v
  | .nil, _ => rfl
  | .node a b l r, hr => by
    rw [list, rise_app] at hr
    obtain ⟨h1, h2, h3⟩ := hr
    rw [rise_cons] at h2
    rw [set, list]
    by_cases hlt : strLt k a = true
    · rw [if_pos hlt, join_list, set_list k v l h1, kset_left hlt]
    · rw [if_neg hlt]
      by_cases he : k = a
      · subst he
        rw [if_neg (by simp)]
        rw [kset_right fun y hy => h3 y hy (k, b) (by simp)]
        simp [list, kset, lt_irr]
      · rw [if_pos (by simp [he]; simpa using hlt)]
        have hgt : strLt a k = true := lt_tot he (by simpa using hlt)
        rw [join_list, set_list k v r h2.2]
        have e : l.list ++ (a, b) :: r.list = (l.list ++ [(a, b)]) ++ r.list := by simp
        rw [e, kset_right]
        · simp
        · intro y hy
          rcases List.mem_append.1 hy with hy | hy
          · exact lt_tr (h3 y hy (a, b) (by simp)) hgt
          · simp at hy; subst hy; exact hgt

def first : Tr → ByteArray × ByteArray
  | .nil => (⟨#[]⟩, ⟨#[]⟩)
  | .node k v .nil _ => (k, v)
  | .node _ _ (.node a b c d) _ => (Tr.node a b c d).first

theorem first_list : ∀ (k v : ByteArray) (l r : Tr), ∃ t, (Tr.node k v l r).list = (Tr.node k v l r).first :: t
  | k, v, .nil, r => ⟨r.list, rfl⟩
  | k, v, .node a b c d, r => by
    obtain ⟨t, h⟩ := first_list a b c d
    refine ⟨t ++ (k, v) :: r.list, ?_⟩
    rw [list, h]
    rfl

def isNil : Tr → Bool
  | .nil => true
  | _ => false

def cut : Tr → ByteArray → Tr
  | .nil, _ => .nil
  | .node a b l r, k =>
    if kget (Tr.node a b l r).list k = none then .node a b l r
    else if strLt k a then join a b (cut l k) r
    else if !(strLt k a || decide (k = a)) then join a b l (cut r k)
    else if l.isNil then r
    else if r.isNil then l
    else join r.first.1 r.first.2 l (cut r r.first.1)

theorem kcut_none {l : KV} {k : ByteArray} (h : ∀ y ∈ l, y.1 ≠ k) : kcut l k = l := by
  unfold kcut
  rw [List.filter_eq_self]
  intro y hy
  simp [h y hy]
theorem kcut_app (a b : KV) (k : ByteArray) : kcut (a ++ b) k = kcut a k ++ kcut b k := List.filter_append ..
theorem kcut_cons (x : ByteArray × ByteArray) (b : KV) (k : ByteArray) : kcut (x :: b) k = if x.1 = k then kcut b k else x :: kcut b k := by
  unfold kcut
  rw [List.filter_cons]
  by_cases h : x.1 = k <;> simp [h]

theorem cut_list : ∀ (t : Tr) (k : ByteArray), Rise t.list → (cut t k).list = kcut t.list k
  | .nil, k, _ => rfl
  | .node a b l r, k, hr => by
    have hr' := hr
    rw [list, rise_app] at hr'
    obtain ⟨h1, h2, h3⟩ := hr'
    rw [rise_cons] at h2
    rw [cut]
    by_cases hg : kget (Tr.node a b l r).list k = none
    · rw [if_pos hg, kcut_none]
      intro y hy e
      have : kget (Tr.node a b l r).list k = some y.2 := by
        rw [← e]; exact kget_mem hr hy
      rw [hg] at this; cases this
    · rw [if_neg hg, list]
      by_cases hlt : strLt k a = true
      · rw [if_pos hlt, join_list, cut_list l k h1, kcut_app, kcut_cons, if_neg (lt_ne hlt).symm]
        congr 2
        rw [kcut_none]
        intro y hy e
        have := h2.1 y hy
        rw [e] at this
        have := lt_tr hlt this
        rw [lt_irr] at this
        cases this
      · rw [if_neg hlt]
        by_cases he : k = a
        · subst he
          rw [if_neg (by simp), kcut_app, kcut_cons, if_pos rfl]
          have hl : kcut l.list k = l.list := kcut_none fun y hy e => by
            have := h3 y hy (k, b) (by simp)
            rw [e, lt_irr] at this; cases this
          have hr2 : kcut r.list k = r.list := kcut_none fun y hy e => by
            have := h2.1 y hy
            rw [e, lt_irr] at this; cases this
          rw [hl, hr2]
          cases l with
          | nil => rfl
          | node a1 b1 l1 r1 =>
            rw [if_neg (by simp [isNil])]
            cases r with
            | nil => simp [list, isNil]
            | node c d e f =>
              rw [if_neg (by simp [isNil]), join_list, cut_list (.node c d e f) _ h2.2]
              obtain ⟨t, ht⟩ := first_list c d e f
              have hrr := h2.2
              rw [ht] at hrr ⊢
              rw [rise_cons] at hrr
              rw [kcut_cons, if_pos rfl, kcut_none]
              intro y hy e
              have := hrr.1 y hy
              rw [e, lt_irr] at this; cases this
        · rw [if_pos (by simp [he]; simpa using hlt)]
          have hgt : strLt a k = true := lt_tot he (by simpa using hlt)
          rw [join_list, cut_list r k h2.2, kcut_app, kcut_cons, if_neg (Ne.symm he)]
          congr 1
          rw [kcut_none]
          intro y hy e
          have := h3 y hy (a, b) (by simp)
          rw [e] at this
          have := lt_tr hgt this
          rw [lt_irr] at this
          cases this
end Tr

/-- Pairs as cells. -/
def pv (l : KV) : List Value := l.flatMap fun p => [.string p.1, .string p.2, .bool false]
theorem pv_len (l : KV) : (pv l).length = l.length * 3 := by
  induction l with
  | nil => rfl
  | cons a l ih => simp [pv] at ih ⊢; omega
theorem pv_app (a b : KV) : pv (a ++ b) = pv a ++ pv b := by simp [pv]
theorem pv_leaf (l : KV) : (pv l).all leafB = true := by
  induction l with
  | nil => rfl
  | cons a l ih =>
    simp only [pv, List.flatMap_cons, List.all_append, Bool.and_eq_true]
    exact ⟨rfl, ih⟩

/-- Values of so many cells each. -/
theorem flat_get {α : Type} {f : α → List Value} {n : Nat} (hf : ∀ x, (f x).length = n) : ∀ (l : List α) (i : Nat) (hi : i < l.length), ((l.flatMap f).drop (i * n)).take n = f l[i]
  | [], i, hi => by simp at hi
  | a :: l, 0, _ => by
    simp only [List.flatMap_cons, Nat.zero_mul, List.drop_zero, List.getElem_cons_zero]
    rw [List.take_append_of_le_length (by rw [hf]; omega), List.take_of_length_le (by rw [hf]; omega)]
  | a :: l, i + 1, hi => by
    simp only [List.flatMap_cons, List.getElem_cons_succ]
    rw [Nat.add_mul, Nat.one_mul, List.drop_append, hf]
    have : (f a).drop (i * n + n) = [] := List.drop_of_length_le (by rw [hf]; omega)
    rw [this, List.nil_append, Nat.add_sub_cancel]
    exact flat_get hf l i (by simpa using hi)

theorem Sl.atF {α : Type} {h : Hp} {e sz : Nat} {a : Option Addr} {l c : Nat} {f : α → List Value} {xs : List α} (hs : Sl h e sz a l c (xs.flatMap f)) (hf : ∀ x, (f x).length = sz) (hz : sz ≠ 0) {i : Nat} (hi : i < l) (hx : i < xs.length) :
    ∃ p, a = some p ∧ At h (p.add (i * sz)) (f xs[i]) := by
  obtain ⟨p, rfl, hp⟩ := hs.at hi hz
  rw [flat_get hf xs i hx] at hp
  exact ⟨p, rfl, hp⟩

theorem at_cellI {h : Hp} {b e i : Nat} {cs : Array Value} {fr : Nat × Nat} {x : Value} (hb : h b = some (.cells cs e fr)) (hi : cs[i]? = some x) : At h (Addr.add ⟨b, 0, none⟩ i) [x] := by
  rw [add_at]
  refine ⟨rfl, cs, e, fr, hb, fun k hk => ?_⟩
  have : k = 0 := by simpa using hk
  subst this
  simpa using hi

end Go.Proofs.YtkhfofnglkekoaaDoor
