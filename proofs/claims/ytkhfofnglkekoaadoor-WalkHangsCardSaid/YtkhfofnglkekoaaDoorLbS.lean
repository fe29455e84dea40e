/- Own library, part S: names and paths as bytes. Conditions: none. -/
import Derived.Test.YtkhfofnglkekoaaDoorLbU
import Derived.Lib.Bytealg
namespace Go.Proofs.YtkhfofnglkekoaaDoor

theorem cntB_eq (s : ByteArray) (c : UInt8) : cntB s (c.toNat : Int) = (s.data.toList.count c : Nat) := by
  unfold cntB
  rw [Go.Lib.foldl_data, Go.Lib.count_foldl]
  simp [Go.Lib.countByte]

theorem idxB_eq (s : ByteArray) (c : UInt8) : idxB s (c.toNat : Int) = Go.Lib.indexByte s.data.toList c := by
  have h := Go.Lib.find_range s.data.toList c 0
  simp only [Nat.add_zero, List.map_id', Nat.sub_zero] at h
  rw [← h]
  unfold idxB
  have e : (List.range s.size).find? (fun i => s[i]! == (c.toNat : Int).toNat.toUInt8) = (List.range s.data.toList.length).find? (fun i => (s.data.toList.getD i 0) == c) := by
    rw [size_list]
    apply Go.Lib.find_congr
    intro i hi
    have hi' : i < s.data.toList.length := List.mem_range.1 hi
    have e1 : s[i]! = s.data.toList[i] := by
      have : i < s.size := hi'
      rw [getElem!_pos s i this]; rfl
    have e2 : s.data.toList.getD i 0 = s.data.toList[i] := by simp [List.getD, List.getElem?_eq_getElem hi']
    rw [e1, e2]
    simp
  rw [e]
  cases List.find? (fun i => s.data.toList.getD i 0 == c) (List.range s.data.toList.length) <;> rfl

/-- The first place of a byte. -/
theorem idx_spec (c : UInt8) : ∀ l : List UInt8, (∃ q r, l = q ++ c :: r ∧ c ∉ q ∧ Go.Lib.indexByte l c = q.length) ∨ (c ∉ l ∧ Go.Lib.indexByte l c = -1)
  | [] => .inr ⟨by simp, rfl⟩
  | b :: l => by
    unfold Go.Lib.indexByte
    by_cases hb : b = c
    · subst hb; exact .inl ⟨[], l, rfl, by simp, by simp⟩
    · have hb' : (b == c) = false := by simp [hb]
      rcases idx_spec c l with ⟨q, r, rfl, hq, h⟩ | ⟨h1, h2⟩
      · refine .inl ⟨b :: q, r, rfl, by simp [hq, Ne.symm hb], ?_⟩
        rw [hb', h]
        have : ((q.length : Int) == -1) = false := by rw [beq_eq_false_iff_ne]; omega
        simp [this]
      · refine .inr ⟨by simp [h1, Ne.symm hb], ?_⟩
        rw [hb', h2]
        simp

/-! Runes. -/
def byteN (s : ByteArray) (i : Nat) : Nat := (s.data.toList.getD i 0).toNat
theorem get_byteN {s : ByteArray} {i : Nat} (h : i < s.size) : (s.get! i).toNat = byteN s i := by
  unfold byteN
  have h' : i < s.data.toList.length := h
  rw [List.getD_eq_getElem?_getD, List.getElem?_eq_getElem h', Option.getD_some]
  have : s.get! i = s.data[i]! := rfl
  rw [this, getElem!_pos s.data i h]
  simp

theorem dec_low {s : ByteArray} {i : Nat} (h : i < s.size) (hb : byteN s i < 128) : Utf8.decode s i = (byteN s i, 1) := by
  unfold Utf8.decode
  have e : (s.get! (i + 0)).toNat = byteN s i := get_byteN h
  simp only [e]
  rw [if_pos hb]

theorem dec_high {s : ByteArray} {i : Nat} (h : i < s.size) (hb : ¬ byteN s i < 128) :
    128 ≤ (Utf8.decode s i).1 ∧ 1 ≤ (Utf8.decode s i).2 ∧ ∀ k, 1 ≤ k → k < (Utf8.decode s i).2 → i + k < s.size ∧ 128 ≤ byteN s (i + k) := by
  unfold Utf8.decode
  have e : (s.get! (i + 0)).toNat = byteN s i := get_byteN h
  simp only [e]
  rw [if_neg hb]
  have cont : ∀ k, (decide (i + k < s.size) && (s.get! (i + k)).toNat / 64 == 2) = true → i + k < s.size ∧ 128 ≤ byteN s (i + k) := by
    intro k hk
    simp only [Bool.and_eq_true, decide_eq_true_eq, beq_iff_eq] at hk
    rw [get_byteN hk.1] at hk
    exact ⟨hk.1, by omega⟩
  have one : ∀ x : Nat, 128 ≤ x → 128 ≤ (x, 1).1 ∧ 1 ≤ (x, 1).2 ∧ ∀ k, 1 ≤ k → k < (x, 1).2 → i + k < s.size ∧ 128 ≤ byteN s (i + k) := by
    intro x hx
    refine ⟨hx, Nat.le_refl _, fun k h1 h2 => ?_⟩
    have : k < 1 := h2
    omega
  split
  · rename_i c
    simp only [Bool.and_eq_true] at c
    have c1 := cont 1 (by simpa using c.2)
    split
    · rename_i d
      refine ⟨d, by simp, fun k h1 h2 => ?_⟩
      have : k < 2 := h2
      have : k = 1 := by omega
      subst this; exact c1
    · exact one _ (by decide)
  · split
    · rename_i c
      simp only [Bool.and_eq_true] at c
      have c1 := cont 1 (by simpa using c.1.2)
      have c2 := cont 2 (by simpa using c.2)
      split
      · rename_i d
        simp only [Bool.and_eq_true, decide_eq_true_eq] at d
        refine ⟨?_, by simp, fun k h1 h2 => ?_⟩
        · have := d.1
          exact Nat.le_trans (by decide) this
        · have h2 : k < 3 := h2
          have : k = 1 ∨ k = 2 := by omega
          rcases this with rfl | rfl
          · exact c1
          · exact c2
      · exact one _ (by decide)
    · split
      · rename_i c
        simp only [Bool.and_eq_true] at c
        have c1 := cont 1 (by simpa using c.1.1.2)
        have c2 := cont 2 (by simpa using c.1.2)
        have c3 := cont 3 (by simpa using c.2)
        split
        · rename_i d
          simp only [Bool.and_eq_true, decide_eq_true_eq] at d
          refine ⟨?_, by simp, fun k h1 h2 => ?_⟩
          · have := d.1
            exact Nat.le_trans (by decide) this
          · have h2 : k < 4 := h2
            have : k = 1 ∨ k = 2 ∨ k = 3 := by omega
            rcases this with rfl | rfl | rfl
            · exact c1
            · exact c2
            · exact c3
        · exact one _ (by decide)
      · exact one _ (by decide)

/-! Names and paths. -/
def nameOk (s : List UInt8) : Bool := s.all (fun b => !(b == 0) && !(b == 47)) && (!decide (s = []) && (decide (s.length ≤ 32) && (!decide (s = [46]) && !decide (s = [46, 46]))))

def splitS : List UInt8 → List (List UInt8)
  | [] => [[]]
  | c :: r => if c = 47 then [] :: splitS r else match splitS r with | x :: t => (c :: x) :: t | [] => [[c]]

theorem splitS_ne : ∀ s, splitS s ≠ []
  | [] => by simp [splitS]
  | c :: r => by
    unfold splitS
    split
    · simp
    · split <;> simp
theorem splitS_none : ∀ {s : List UInt8}, 47 ∉ s → splitS s = [s]
  | [], _ => rfl
  | c :: r, h => by
    simp only [List.mem_cons, not_or] at h
    unfold splitS
    rw [if_neg (Ne.symm h.1), splitS_none h.2]
theorem splitS_app : ∀ {q r : List UInt8}, 47 ∉ q → splitS (q ++ 47 :: r) = q :: splitS r
  | [], r, _ => by simp [splitS]
  | c :: q, r, h => by
    simp only [List.mem_cons, not_or] at h
    rw [List.cons_append, splitS, if_neg (Ne.symm h.1), splitS_app h.2]
theorem splitS_len : ∀ s, (splitS s).length = s.count 47 + 1
  | [] => rfl
  | c :: r => by
    unfold splitS
    have ih := splitS_len r
    by_cases h : c = 47
    · rw [if_pos h, List.length_cons, ih, h, List.count_cons_self]
    · rw [if_neg h, List.count_cons_of_ne (fun e => h e)]
      split
      · rename_i x t hx
        rw [hx] at ih
        simpa using ih
      · rename_i hx
        exact absurd hx (splitS_ne r)

/-- The error's number, and the names. -/
def pathNames (p : List UInt8) : Nat × List (List UInt8) :=
  if p = [] ∨ p.length > 255 then (17, [])
  else if p.head? ≠ some 47 then (15, [])
  else if p = [47] then (0, [])
  else if (splitS p.tail).length ≤ 16 ∧ (splitS p.tail).all nameOk = true then (0, splitS p.tail) else (17, [])

theorem ext_list (s : ByteArray) (i j : Nat) : (s.extract i j).data.toList = (s.data.toList.take j).drop i := by
  rw [ByteArray.data_extract, Array.toList_extract, List.extract_eq_take_drop, List.drop_take]

/-- Texts as cells. -/
def sv (l : List ByteArray) : List Value := l.flatMap fun s => [.string s]
theorem sv_len (l : List ByteArray) : (sv l).length = l.length := by
  induction l with
  | nil => rfl
  | cons a l ih => simp [sv] at ih ⊢; omega
theorem sv_app (a b : List ByteArray) : sv (a ++ b) = sv a ++ sv b := by simp [sv]
theorem sv_leaf (l : List ByteArray) : (sv l).all leafB = true := by simp [sv, leafB]

end Go.Proofs.YtkhfofnglkekoaaDoor
