/- Own library, part W: inodes and entries in rows, what a path leads to. Conditions: none. -/
import Derived.Test.YtkhfofnglkekoaaDoorLbS
namespace Go.Proofs.YtkhfofnglkekoaaDoor

theorem At.sub {h : Hp} {a : Addr} {vs : List Value} {i : Nat} {x : Value} (H : At h a vs) (hi : vs[i]? = some x) : At h (a.add i) [x] := by
  obtain ⟨hs, c, e, fr, hb, hc⟩ := H
  obtain ⟨b, o, s⟩ := a
  have hs : s = none := hs
  subst hs
  rw [add_at]
  refine ⟨rfl, c, e, fr, hb, fun k hk => ?_⟩
  have : k = 0 := by simpa using hk
  subst this
  have hlt := (List.getElem?_eq_some_iff.1 hi).1
  have := hc i hlt
  simpa [hi] using this

/-- An inode. -/
structure Nd where
  k : Nat
  l : Nat
  s : Nat
  p : Nat

structure Nd.ok (x : Nd) : Prop where
  k : x.k < 256
  l : x.l < 4294967296
  s : x.s < 4294967296
  p : x.p < 4294967296

def Nd.zero : Nd := ⟨0, 0, 0, 0⟩
def Nd.root : Nd := ⟨2, 2, 0, 1⟩
def Nd.vals (x : Nd) : List Value := [.int .u8 x.k, .int .u32 x.l, .int .u32 x.s, .int .u32 x.p]
def Nd.bytes (x : Nd) : List UInt8 := UInt8.ofNat x.k :: (be 4 x.l ++ (be 4 x.s ++ be 4 x.p))
theorem Nd.bytes_len (x : Nd) : x.bytes.length = 13 := by simp [Nd.bytes, be_len]
def Nd.may (x : Nd) : Bool :=
  if x.k = 1 then decide (1 ≤ x.l) && (decide (x.l ≤ 1000) && (decide (x.s ≤ 4096) && decide (x.p = 0)))
  else if x.k = 2 then decide (2 ≤ x.l) && decide (x.s = 0) else false
def ndOf (s : List UInt8) : Nd := ⟨(s.getD 0 0).toNat, unb ((s.drop 1).take 4), unb ((s.drop 5).take 4), unb ((s.drop 9).take 4)⟩

theorem ndOf_bytes {x : Nd} (h : x.ok) : ndOf x.bytes = x := by
  obtain ⟨h1, h2, h3, h4⟩ := h
  unfold ndOf Nd.bytes
  have e1 : ((UInt8.ofNat x.k :: (be 4 x.l ++ (be 4 x.s ++ be 4 x.p))).drop 1).take 4 = be 4 x.l := by
    rw [List.drop_succ_cons, List.drop_zero, List.take_append_of_le_length (by rw [be_len]; omega), List.take_of_length_le (by rw [be_len]; omega)]
  have e2 : ((UInt8.ofNat x.k :: (be 4 x.l ++ (be 4 x.s ++ be 4 x.p))).drop 5).take 4 = be 4 x.s := by
    rw [List.drop_succ_cons, List.drop_append, be_len, List.drop_of_length_le (by rw [be_len]; omega), List.nil_append, Nat.sub_self, List.drop_zero, List.take_append_of_le_length (by rw [be_len]; omega), List.take_of_length_le (by rw [be_len]; omega)]
  have e3 : ((UInt8.ofNat x.k :: (be 4 x.l ++ (be 4 x.s ++ be 4 x.p))).drop 9).take 4 = be 4 x.p := by
    rw [List.drop_succ_cons, List.drop_append, be_len, List.drop_of_length_le (by rw [be_len]; omega), List.nil_append, List.drop_append, be_len, List.drop_of_length_le (by rw [be_len]; omega), List.nil_append, show 8 - 4 - 4 = 0 from rfl, List.drop_zero, List.take_of_length_le (by rw [be_len]; omega)]
  rw [e1, e2, e3, unb_be, unb_be, unb_be]
  have f : (256 : Nat) ^ 4 = 4294967296 := by decide
  rw [f, Nat.mod_eq_of_lt h2, Nat.mod_eq_of_lt h3, Nat.mod_eq_of_lt h4]
  have : (UInt8.ofNat x.k).toNat = x.k := by simp; omega
  simp only [List.getD_cons_zero, this]

theorem ndOf_ok (s : List UInt8) (h : s.length = 13) : (ndOf s).ok := by
  have b : ∀ t : List UInt8, t.length = 4 → unb t < 4294967296 := by
    intro t ht
    have := unb_lt t
    rw [ht] at this
    exact this
  exact ⟨UInt8.toNat_lt _, b _ (by simp; omega), b _ (by simp; omega), b _ (by simp; omega)⟩

/-- An inode's writing, read. -/
def getNd (s : List UInt8) : Option Nd := if s.length = 13 ∧ (ndOf s).may = true then some (ndOf s) else none
theorem getNd_bytes {x : Nd} (h : x.ok) (hm : x.may = true) : getNd x.bytes = some x := by
  unfold getNd
  rw [ndOf_bytes h, if_pos ⟨x.bytes_len, hm⟩]
theorem getNd_ok {s : List UInt8} {x : Nd} (h : getNd s = some x) : x.ok ∧ x.may = true := by
  unfold getNd at h
  split at h
  · rename_i c
    cases h
    exact ⟨ndOf_ok s c.1, c.2⟩
  · cases h

/-! Keys. -/
def keyOf (c : UInt8) (n : Nat) : List UInt8 := c :: be 4 n
def kI (n : Nat) : ByteArray := bOf (keyOf 73 n)
def kE (n : Nat) (s : ByteArray) : ByteArray := bOf (keyOf 69 n ++ s.data.toList)
def kB (n k : Nat) : ByteArray := bOf (keyOf 68 n ++ be 2 k)
theorem keyOf_len (c : UInt8) (n : Nat) : (keyOf c n).length = 5 := by simp [keyOf, be_len]
def kEnd (n : Nat) : ByteArray := bOf ((bumpF (keyOf 69 n)).getD [])

/-- An inode of a row. -/
def load (l : KV) (n : Nat) : Option Nd :=
  match kget l (kI n) with
  | some s => getNd s.data.toList
  | none => if n = 1 then some Nd.root else none
/-- An entry's inode. -/
def child (l : KV) (d : Nat) (s : ByteArray) : Option Nat :=
  match kget l (kE d s) with
  | some v => if v.size = 4 then some (unb v.data.toList) else none
  | none => none

theorem load_ok {l : KV} {n : Nat} {x : Nd} (h : load l n = some x) : x.ok ∧ x.may = true := by
  unfold load at h
  split at h
  · exact getNd_ok h
  · split at h
    · cases h; exact ⟨⟨by decide, by decide, by decide, by decide⟩, rfl⟩
    · cases h
theorem child_lt {l : KV} {d n : Nat} {s : ByteArray} (h : child l d s = some n) : n < 4294967296 := by
  unfold child at h
  split at h
  · split at h
    · rename_i v _ hv
      cases h
      have := unb_lt v.data.toList
      rw [← size_list, hv] at this
      exact this
    · cases h
  · cases h

/-- What a path leads to. -/
structure Spt where
  dir : Nat
  name : ByteArray
  ino : Nat
  node : Nd

def Spt.vals (t : Spt) : List Value := [.int .u32 t.dir, .string t.name, .int .u32 t.ino] ++ t.node.vals
def Spt.zero : Spt := ⟨0, E0, 0, Nd.zero⟩
def Spt.root (l : KV) : Spt := ⟨0, E0, 1, (load l 1).getD Nd.zero⟩

def stepTo (l : KV) (t : Spt) (s : ByteArray) : Spt :=
  match child l t.ino s with
  | some i => (match load l i with
    | some x => if i ≠ 0 then ⟨t.ino, s, i, x⟩ else ⟨t.ino, s, 0, Nd.zero⟩
    | none => ⟨t.ino, s, 0, Nd.zero⟩)
  | none => ⟨t.ino, s, 0, Nd.zero⟩

def findL (l : KV) : Spt → List ByteArray → Nat × Spt
  | t, [] => (0, t)
  | t, s :: r => if t.ino = 0 then (10, Spt.zero) else if t.node.k ≠ 2 then (12, Spt.zero) else findL l (stepTo l t s) r

def find (l : KV) (p : ByteArray) : Nat × Spt :=
  if (pathNames p.data.toList).1 ≠ 0 then ((pathNames p.data.toList).1, Spt.zero) else findL l (Spt.root l) ((pathNames p.data.toList).2.map bOf)

structure Spt.ok (t : Spt) : Prop where
  dir : t.dir < 4294967296
  ino : t.ino < 4294967296
  node : t.node.ok
  name : t.name.size ≤ 32

theorem Nd.zero_ok : Nd.zero.ok := ⟨by decide, by decide, by decide, by decide⟩
theorem Spt.zero_ok : Spt.zero.ok := ⟨(by decide : 0 < 4294967296), (by decide : 0 < 4294967296), Nd.zero_ok, (by decide : 0 ≤ 32)⟩
theorem root_ok (l : KV) : (Spt.root l).ok := by
  refine ⟨(by decide : 0 < 4294967296), (by decide : 1 < 4294967296), ?_, (by decide : 0 ≤ 32)⟩
  unfold Spt.root
  cases h : load l 1 with
  | none => exact Nd.zero_ok
  | some x => exact (load_ok h).1
theorem stepTo_ok {l : KV} {t : Spt} (h : t.ok) {s : ByteArray} (hs : s.size ≤ 32) : (stepTo l t s).ok := by
  unfold stepTo
  have z : (⟨t.ino, s, 0, Nd.zero⟩ : Spt).ok := ⟨h.ino, (by decide : 0 < 4294967296), Nd.zero_ok, hs⟩
  cases hc : child l t.ino s with
  | none => exact z
  | some i =>
    dsimp only
    cases hl : load l i with
    | none => exact z
    | some x =>
      dsimp only
      split
      · exact ⟨h.ino, child_lt hc, (load_ok hl).1, hs⟩
      · exact z

end Go.Proofs.YtkhfofnglkekoaaDoor
