/- Contracts, part A: packages pack and keys. Conditions: none. -/
import Derived.Test.YtkhfofnglkekoaaDoorLbW
import Derived.Test.YtkhfofnglkekoaaDoorVcFt
namespace Go.Proofs.YtkhfofnglkekoaaDoor

theorem wide_id {n : Int} (h1 : 1 ≤ n) (h2 : n ≤ 8) : imin (imax n 1) 8 = n := by
  unfold imin imax
  by_cases e : (1 : Int) > n
  · omega
  · rw [if_neg e]
    by_cases e2 : (8 : Int) < n
    · omega
    · rw [if_neg e2]

theorem ok_wide (n : Int) (h1 : 1 ≤ n) (h2 : n ≤ 8) (h : Hp) : FnH Tryd.prog N_pack_wide #[.int .i64 n] h fun v h' => v = .int .i64 n ∧ h = h' := by
  refine F_pack_wide.calls n h _ ?_
  unfold F_pack_wide
  rw [wide_id h1 h2]
  exact ⟨rfl, rfl⟩

theorem ok_own {h : Hp} {b : Option Addr} {l c : Nat} {xs : List UInt8} (hs : BSl T_uint8 h b l c xs) (more : Nat) (hm : l + more ≤ 4294967296) :
    FnH Tryd.prog N_pack_own #[.slice b l c, .int .i64 more] h fun v h' => ∃ a, h a = none ∧ v = .slice (some ⟨a, 0, none⟩) (l + more) (l + more) ∧ h' = h.set a (.cells (bv (xs ++ List.replicate more 0)).toArray T_uint8 (0, 0)) := by
  refine F_pack_own.calls b l c more h _ ?_
  unfold F_pack_own
  have hl := hs.len
  have e : Int.toNat ((l : Int) + more) = l + more := by omega
  rw [e]
  refine ⟨by unfold I64; omega, by omega, by omega, by omega, by decide, fun a ha => ?_⟩
  have hx := hs.ext (Ext.new (h := h) (o := .cells (repl (l + more) [.int .u8 0]).toArray T_uint8) ha)
  refine ⟨l, bv xs, ⟨(Nat.min_eq_left (by omega)).symm, ?_⟩, bv_leaf _, ?_⟩
  · exact Sl.src (e := T_uint8) ⟨hx.1, hx.2.1, hx.2.2⟩
  · have hz : ∀ ys : List UInt8, ys = xs ++ List.replicate more 0 → (h.set a (.cells (bv ys).toArray T_uint8 (0, 0))) = h.set a (.cells (bv (xs ++ List.replicate more 0)).toArray T_uint8 (0, 0)) := fun ys hy => by rw [hy]
    dsimp only
    by_cases h0 : l * (tyOf T_uint8).size = 0
    · rw [if_pos h0]
      have hl0 : l = 0 := by have : (tyOf T_uint8).size = 1 := rfl; rw [this] at h0; omega
      refine ⟨a, ha, rfl, ?_⟩
      rw [bv_zero]
      refine hz _ ?_
      have : xs = [] := List.eq_nil_of_length_eq_zero (by omega)
      subst this
      rw [hl0]; simp
    · rw [if_neg h0]
      refine hst_at (Hp.set_same _ _ _) (by rw [bv_len, List.size_toArray, repl_len]; simp; omega) ?_
      refine ⟨a, ha, rfl, ?_⟩
      rw [set_set, bv_zero]
      have : splice (bv (List.replicate (l + more) 0)).toArray.toList 0 (bv xs) = bv (xs ++ List.replicate more 0) := by
        unfold splice
        simp only [List.take_zero, List.nil_append, Nat.zero_add, bv_len, bv_app]
        congr 1
        unfold bv
        rw [← List.map_drop, List.drop_replicate, hl]
        congr 2
        omega
      rw [this]

theorem fdiv_byte (x i : Nat) (hi : i < 8) : IntKind.u8.wrap (Int.fdiv (x : Int) (2 ^ (min (Int.toNat (8 * (i : Int))) 64))) = ((UInt8.ofNat (x / 2 ^ (8 * i))).toNat : Int) := by
  rw [wrap_u8]
  have : min (Int.toNat (8 * (i : Int))) 64 = 8 * i := by omega
  rw [this]
  have h2 : (2 : Int) ^ (8 * i) = ((2 ^ (8 * i) : Nat) : Int) := by simp
  rw [h2, ← Int.ofNat_fdiv]
  simp

theorem ok_put {h : Hp} {b : Option Addr} {l c : Nat} {xs : List UInt8} (hs : BSl T_uint8 h b l c xs) (n x : Nat) (h1 : 1 ≤ n) (h2 : n ≤ 8) (hm : l + n ≤ 4294967296) :
    FnH Tryd.prog N_pack_Put #[.slice b l c, .int .i64 n, .int .u64 x] h fun v h' => ∃ a, h a = none ∧ v = .slice (some ⟨a, 0, none⟩) (l + n) (l + n) ∧ h' = h.set a (.cells (bv (xs ++ be n x)).toArray T_uint8 (0, 0)) := by
  refine F_pack_Put.calls b l c n x h _ ?_
  unfold F_pack_Put
  have hl := hs.len
  refine (ok_wide n (by omega) (by omega) h).mono ?_
  rintro v h' ⟨rfl, rfl⟩
  refine ⟨_, rfl, ?_⟩
  refine (ok_own hs n hm).mono ?_
  rintro v h' ⟨a, ha, rfl, rfl⟩
  refine ⟨_, _, _, rfl, ?_⟩
  refine ⟨fun m i g => ∃ k : Nat, i = k ∧ m + k = n ∧ g = h.set a (.cells (bv (xs ++ (List.replicate (n - k) 0 ++ be k x))).toArray T_uint8 (0, 0)), ⟨n, 0, rfl, by omega, by simp [be]⟩, ?_⟩
  rintro m i g ⟨k, rfl, hk, rfl⟩
  refine bs (fun ht => ?_) fun hf => ?_
  · have hkn : k < n := by simpa using ht
    refine ⟨by unfold I64; omega, by unfold I64; omega, by unfold I64; omega, by omega, by omega, by omega, ?_⟩
    have e : Int.toNat (((l + n : Nat) : Int) - 1 - (k : Int)) = l + n - 1 - k := by omega
    rw [e, fdiv_byte x k (by omega)]
    refine pS ?_
    rw [add_at]
    refine hst_at (Hp.set_same _ _ _) (by simp [bv_len, be_len]; omega) ⟨by unfold I64; omega, m - 1, by omega, k + 1, by omega, by omega, ?_⟩
    rw [set_set]
    congr 3
    have e2 : List.replicate (n - k) (0 : UInt8) = List.replicate (n - (k + 1)) 0 ++ [0] := by
      rw [← List.replicate_succ']
      congr 1
      omega
    have e3 : bv (xs ++ (List.replicate (n - k) 0 ++ be k x)) = bv (xs ++ List.replicate (n - (k + 1)) 0) ++ Value.int .u8 (0 : UInt8).toNat :: bv (be k x) := by
      rw [e2]; simp [bv]
    rw [List.toList_toArray, e3]
    have e4 : 0 + (l + n - 1 - k) * 1 = (bv (xs ++ List.replicate (n - (k + 1)) 0)).length := by simp [bv_len]; omega
    rw [e4, splice_mid]
    simp [bv, be]
  · have hkn : k = n := by
      have : ¬ (k : Int) < n := by simpa using hf
      omega
    subst hkn
    refine ⟨a, ha, rfl, ?_⟩
    simp

theorem or_byte (x b : Nat) (hx : x < 72057594037927936) (hb : b < 256) : bitsV .or .u64 (IntKind.u64.wrap ((x : Int) * 2 ^ (min (Int.toNat 8) 64))) (IntKind.u64.wrap (b : Int)) = ((x * 256 + b : Nat) : Int) := by
  have e1 : IntKind.u64.wrap ((x : Int) * 2 ^ (min (Int.toNat 8) 64)) = ((x * 256 : Nat) : Int) := by
    rw [wrap_u64]
    have : (2 : Int) ^ (min (Int.toNat 8) 64) = 256 := by decide
    rw [this]; omega
  have e2 : IntKind.u64.wrap (b : Int) = (b : Int) := by rw [wrap_u64]; omega
  rw [e1, e2]
  unfold bitsV
  simp only []
  have hb64 : IntKind.u64.bits = 64 := rfl
  rw [hb64, BitVec.toNat_or]
  have f1 : (BitVec.ofInt 64 ((x * 256 : Nat) : Int)).toNat = x * 256 := by
    rw [BitVec.toNat_ofInt]; omega
  have f2 : (BitVec.ofInt 64 (b : Int)).toNat = b := by
    rw [BitVec.toNat_ofInt]; omega
  rw [f1, f2]
  have : x * 256 ||| b = x * 256 + b := by
    have := Nat.two_pow_add_eq_or_of_lt (i := 8) (b := b) (by omega) x
    rw [Nat.mul_comm x 256]
    simpa using this.symm
  rw [this, wrap_u64]
  omega

theorem unb_take (xs : List UInt8) (i k : Nat) (hk : i + k < xs.length) : unb ((xs.drop i).take (k + 1)) = unb ((xs.drop i).take k) * 256 + (xs[i + k]'hk).toNat := by
  have : (xs.drop i).take (k + 1) = (xs.drop i).take k ++ [xs[i + k]'hk] := by
    rw [List.take_add_one, List.getElem?_drop, List.getElem?_eq_getElem hk]; rfl
  rw [this, unb_app]
  simp [unb]

theorem ok_get {h : Hp} {b : Option Addr} {l c : Nat} {xs : List UInt8} (hs : BSl T_uint8 h b l c xs) (i n : Nat) (h1 : 1 ≤ n) (h2 : n ≤ 8) (hi : i ≤ l) (hm : l ≤ 140737488355328) :
    FnH Tryd.prog N_pack_Get #[.slice b l c, .int .i64 i, .int .i64 n] h fun v h' => h = h' ∧
      ((i + n ≤ l ∧ v = .tuple #[.int .u64 (unb ((xs.drop i).take n)), .int .i64 ((i : Int) + n), .int .i64 0]) ∨ (¬ i + n ≤ l ∧ v = .tuple #[.int .u64 0, .int .i64 0, .int .i64 3])) := by
  refine F_pack_Get.calls b l c i n h _ ?_
  unfold F_pack_Get
  have hl := hs.len
  refine (ok_wide n (by omega) (by omega) h).mono ?_
  rintro v h' ⟨rfl, rfl⟩
  refine ⟨_, rfl, ?_⟩
  refine bsF (by simp) (bsF (by simp; omega) ⟨by unfold I64; omega, bs (fun ht => ?_) fun hf => ?_⟩)
  · simp only [decide_eq_true_eq] at ht
    exact ⟨rfl, .inr ⟨by omega, rfl⟩⟩
  · simp only [decide_eq_false_iff_not] at hf
    have hle : i + n ≤ l := by omega
    have hc := hs.2.1
    refine ⟨by unfold I64; omega, by omega, by omega, by omega, ?_⟩
    have e : Int.toNat ((i : Int) + n - i) = n := by omega
    rw [e]
    refine ⟨fun m x k g => ∃ j : Nat, k = j ∧ m + j = n ∧ x = (unb ((xs.drop i).take j) : Nat) ∧ h = g, ⟨n, 0, rfl, by omega, by simp [unb], rfl⟩, ?_⟩
    rintro m x k g ⟨j, rfl, hj, rfl, rfl⟩
    refine bs (fun ht => ?_) fun hf2 => ?_
    · have hjn : j < n := by simpa using ht
      refine ⟨by omega, by omega, ?_⟩
      have hlt : i + j < xs.length := by omega
      obtain ⟨p, rfl, hp⟩ := hs.get (i := i + j) hlt
      have hne : ¬ ((c : Int) = i) := by omega
      unfold subSl
      rw [if_neg hne]
      refine pS ⟨xs[i + j].toNat, ?_, by omega, by unfold I64; omega, m - 1, by omega, j + 1, by omega, by omega, ?_, rfl⟩
      · obtain ⟨_, _, h3⟩ := hs
        rcases h3 with h3 | ⟨b, o, cs, fr, hb, _, _⟩
        · omega
        · cases hb
          rw [add_at] at hp
          simp only [add_at]
          have : o + Int.toNat (i : Int) * 1 + Int.toNat (j : Int) * 1 = o + (i + j) * 1 := by omega
          rw [this]
          exact hp
      · rw [or_byte _ _ ?_ (xs[i + j].toNat_lt), unb_take xs i j hlt]
        have := unb_lt ((xs.drop i).take j)
        have h3 : ((xs.drop i).take j).length = j := by simp; omega
        rw [h3] at this
        have h4 : 256 ^ j ≤ 256 ^ 7 := Nat.pow_le_pow_right (by decide) (by omega)
        omega
    · have hjn : j = n := by
        have : ¬ (j : Int) < n := by simpa using hf2
        omega
      subst hjn
      exact ⟨by unfold I64; omega, rfl, .inl ⟨hle, rfl⟩⟩

/-! Keys. -/
theorem ok_of (c : UInt8) (n : Nat) (hn : n < 4294967296) (h : Hp) : FnH Tryd.prog N_keys_of #[.int .u8 c.toNat, .int .u32 n] h fun v h' =>
    ∃ a, v = .slice (some ⟨a, 0, none⟩) 5 5 ∧ Ext h h' ∧ BSl T_uint8 h' (some ⟨a, 0, none⟩) 5 5 (keyOf c n) := by
  refine F_keys_of.calls _ _ h _ ?_
  unfold F_keys_of
  intro b hb
  have hb1 : BSl T_uint8 (h.set b (.cells #[.int .u8 c.toNat] T_uint8 (0, 0))) (some ⟨b, 0, none⟩) 1 1 [c] := BSl.fresh (s := [c]) rfl
  have e : IntKind.u64.wrap (n : Int) = (n : Int) := by rw [wrap_u64]; omega
  rw [e]
  refine (ok_put hb1 4 n (by omega) (by omega) (by omega)).mono ?_
  rintro v h' ⟨a, ha, rfl, rfl⟩
  exact ⟨_, _, _, rfl, a, rfl, (Ext.new hb).trans (Ext.new ha), BSl.fresh (by simp [be_len])⟩

theorem ok_kI (n : Nat) (hn : n < 4294967296) (h : Hp) : FnH Tryd.prog N_keys_Inode #[.int .u32 n] h fun v h' => v = .string (kI n) ∧ Ext h h' := by
  refine F_keys_Inode.calls _ h _ ?_
  unfold F_keys_Inode
  refine (ok_of 73 n hn h).mono ?_
  rintro v h' ⟨a, rfl, he, hs⟩
  exact ⟨_, _, _, rfl, _, hs.bytes, rfl, he⟩

theorem bOf_app (a b : List UInt8) : bOf a ++ bOf b = bOf (a ++ b) := bx (by simp [bOf])

theorem ok_kE (n : Nat) (hn : n < 4294967296) (s : ByteArray) (hs : s.size ≤ 32) (h : Hp) : FnH Tryd.prog N_keys_Entry #[.int .u32 n, .string s] h fun v h' => v = .string (kE n s) ∧ Ext h h' := by
  refine F_keys_Entry.calls _ _ h _ ?_
  unfold F_keys_Entry
  refine bsF (by simp; omega) ?_
  refine (ok_of 69 n hn h).mono ?_
  rintro v h' ⟨a, rfl, he, hb⟩
  refine ⟨_, _, _, rfl, _, hb.bytes, by rw [bOf_size, keyOf_len]; omega, ?_, he⟩
  rw [kE, ← bOf_app, bOf_self]

theorem ok_behind (s : List UInt8) (q : List UInt8) (b : UInt8) (k : Nat) (hs : s = q ++ b :: List.replicate k 255) (hb : b ≠ 255) (hl : s.length < 4294967296) (h : Hp) :
    FnH Tryd.prog N_keys_behind #[.string (bOf s)] h fun v h' => v = .string (bOf (q ++ [b + 1])) ∧ Ext h h' := by
  refine F_keys_behind.calls _ h _ ?_
  unfold F_keys_behind
  intro cap hc p hp
  rw [bOf_size] at hc ⊢
  rw [bOf_list]
  have hsl : s.length = q.length + 1 + k := by rw [hs]; simp; omega
  refine ⟨by unfold I64; omega, fun m i g => ∃ j : Nat, j ≤ k ∧ i = (s.length : Int) - 1 - j ∧ m + j = k ∧
    g = h.set p (.cells ((bv (q ++ b :: (List.replicate (k - j) 255 ++ List.replicate j 0))) ++ List.replicate (cap - s.length) (Value.int .u8 0)).toArray T_uint8 (cap, cap + 1)), ⟨k, 0, by omega, by omega, by omega, ?_⟩, ?_⟩
  · congr 3
    rw [hs]; simp [bv]
  · rintro m i g ⟨j, hjk, rfl, hm, rfl⟩
    have hi : Int.toNat ((s.length : Int) - 1 - j) = q.length + (k - j) := by omega
    rw [hi]
    obtain ⟨x, l, r, hlen, hsp, hlt, h1, h2⟩ : ∃ (x : UInt8) (l r : List UInt8), l.length = q.length + (k - j) ∧ q ++ b :: (List.replicate (k - j) 255 ++ List.replicate j 0) = l ++ x :: r ∧ l.length < s.length ∧
        (x ≠ 255 → l ++ [x + 1] = q ++ [b + 1]) ∧ (x = 255 → j + 1 ≤ k ∧ l ++ (x + 1) :: r = q ++ b :: (List.replicate (k - (j + 1)) 255 ++ List.replicate (j + 1) 0)) := by
      rcases Nat.eq_or_lt_of_le hjk with e | e
      · subst e
        exact ⟨b, q, List.replicate j 0, by omega, by simp, by omega, fun _ => rfl, fun e => absurd e hb⟩
      · obtain ⟨d, hd⟩ : ∃ d, k - j = d + 1 := ⟨k - j - 1, by omega⟩
        refine ⟨255, q ++ b :: List.replicate d 255, List.replicate j 0, by simp; omega, by rw [hd, List.replicate_succ']; simp, by simp; omega, fun h => absurd rfl h, fun _ => ⟨by omega, ?_⟩⟩
        have : k - (j + 1) = d := by omega
        rw [this, List.replicate_succ]
        simp
    rw [hsp, ← hlen]
    have hcells : ∀ y : UInt8, bv (l ++ y :: r) ++ List.replicate (cap - s.length) (Value.int .u8 0) = bv l ++ Value.int .u8 y.toNat :: (bv r ++ List.replicate (cap - s.length) (Value.int .u8 0)) := by
      intro y; simp [bv]
    rw [hcells x]
    simp only [Nat.mul_one, add_at, Nat.zero_add]
    refine ⟨by omega, by omega, (x.toNat : Int), at_mid (Hp.set_same _ _ _) (bv_len l).symm, by omega, by omega, ?_⟩
    refine hst_fr (Hp.set_same _ _ _) (by simp [bv_len]) (by simp; omega) ⟨by omega, by omega, ?_⟩
    rw [set_set, List.toList_toArray, ← bv_len l, splice_mid]
    have hx1 : IntKind.u8.wrap ((x.toNat : Int) + 1) = ((x + 1).toNat : Int) := by
      rw [wrap_u8, UInt8.toNat_add]
      have : (1 : UInt8).toNat = 1 := rfl
      rw [this]; omega
    rw [hx1]
    refine ⟨((x + 1).toNat : Int), at_mid (Hp.set_same _ _ _) rfl, bs (fun ht => ?_) fun hf => ?_⟩
    · have hx : x ≠ 255 := by rintro rfl; simp at ht
      refine ⟨by unfold I64; omega, by omega, by omega, by omega, bOf (l ++ [x + 1]), ?_, by rw [h1 hx], Ext.new hp⟩
      have e1 : Int.toNat ((s.length : Int) - 1 - j + 1 - 0) = l.length + 1 := by omega
      rw [e1]
      refine ⟨by rw [bOf_size]; simp, .inr ⟨⟨p, 0, none⟩, ?_, rfl, _, T_uint8, _, Hp.set_same _ _ _, fun i hi => ?_⟩⟩
      · unfold subSl
        split
        · rfl
        · simp [add_at]
      · rw [bOf_list] at hi ⊢
        simp only [List.length_map, List.length_append, List.length_singleton] at hi
        rw [List.getElem?_toArray, Nat.zero_add, ← hcells (x + 1), List.getElem?_append_left (by rw [bv_len]; simp; omega)]
        have : l ++ (x + 1) :: r = (l ++ [x + 1]) ++ r := by simp
        rw [this, bv_app, List.getElem?_append_left (by rw [bv_len]; simp; omega)]
        rfl
    · have hx : x = 255 := by
        have h3 : (x + 1).toNat = 0 := by
          have : ((x + 1).toNat : Int) = 0 := by
            rcases Int.decEq ((x + 1).toNat : Int) 0 with h | h
            · simp [h] at hf
              exact absurd hf (by simpa using h)
            · exact h
          omega
        apply UInt8.toNat_inj.1
        rw [UInt8.toNat_add] at h3
        have h4 : (1 : UInt8).toNat = 1 := rfl
        have h5 : (255 : UInt8).toNat = 255 := rfl
        have := x.toNat_lt
        rw [h4] at h3
        omega
      obtain ⟨h3, h4⟩ := h2 hx
      refine ⟨by unfold I64; omega, m - 1, by omega, j + 1, h3, by omega, by omega, ?_⟩
      rw [← h4, hcells]

theorem bump_split : ∀ (c : UInt8) (r : List UInt8), c ≠ 255 → ∃ q b k, c :: r = q ++ b :: List.replicate k 255 ∧ b ≠ 255 := by
  intro c r hc
  have : ∀ (r : List UInt8), (∃ k, r = List.replicate k 255) ∨ ∃ q b k, r = q ++ b :: List.replicate k 255 ∧ b ≠ 255 := by
    intro r
    induction r with
    | nil => exact .inl ⟨0, rfl⟩
    | cons a r ih =>
      rcases ih with ⟨k, rfl⟩ | ⟨q, b, k, rfl, hb⟩
      · by_cases ha : a = 255
        · exact .inl ⟨k + 1, by rw [ha, List.replicate_succ]⟩
        · exact .inr ⟨[], a, k, rfl, ha⟩
      · exact .inr ⟨a :: q, b, k, rfl, hb⟩
  rcases this r with ⟨k, rfl⟩ | ⟨q, b, k, rfl, hb⟩
  · exact ⟨[], c, k, rfl, hc⟩
  · exact ⟨c :: q, b, k, rfl, hb⟩

theorem ok_kEs (n : Nat) (hn : n < 4294967296) (h : Hp) : FnH Tryd.prog N_keys_Entries #[.int .u32 n] h fun v h' => v = .tuple #[.string (kE n E0), .string (kEnd n)] ∧ Ext h h' := by
  refine F_keys_Entries.calls _ h _ ?_
  unfold F_keys_Entries
  refine (ok_of 69 n hn h).mono ?_
  rintro v h' ⟨a, rfl, he, hs⟩
  refine ⟨_, _, _, rfl, _, hs.bytes, ?_⟩
  obtain ⟨q, b, k, hq, hb⟩ := bump_split 69 (be 4 n) (by decide)
  refine (ok_behind (keyOf 69 n) q b k hq hb (by rw [keyOf_len]; omega) h').mono ?_
  rintro v h2 ⟨rfl, he2⟩
  refine ⟨_, rfl, ?_, he.trans he2⟩
  have e1 : kE n E0 = bOf (keyOf 69 n) := by
    rw [kE]
    rw [show E0.data.toList = [] from rfl, List.append_nil]
  have e2 : kEnd n = bOf (q ++ [b + 1]) := by
    rw [kEnd]
    have : keyOf 69 n = q ++ b :: List.replicate k 255 := hq
    rw [this, bumpF_mid q b k hb, Option.getD_some]
  rw [e1, e2]

end Go.Proofs.YtkhfofnglkekoaaDoor
