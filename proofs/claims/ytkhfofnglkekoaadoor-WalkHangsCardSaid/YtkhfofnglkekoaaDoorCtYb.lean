/- Contracts, part Yb: law 17. Conditions: none. -/
import Derived.Test.YtkhfofnglkekoaaDoorCtY
namespace Go.Proofs.YtkhfofnglkekoaaDoor

structure Op17 where
  kind : Int
  dir : Nat
  ino : Nat
  name : ByteArray
  nd : Nd

def Op17.vals (o : Op17) : List Value := [.int .i64 o.kind, .int .u32 o.dir, .int .u32 o.ino, .string o.name] ++ o.nd.vals
/-- Its numbers are of their types. -/
structure Op17.ok (o : Op17) : Prop where
  dir : o.dir < 4294967296
  ino : o.ino < 4294967296
  nd : o.nd.ok

def OSl (h : Hp) (e : Nat) (a : Option Addr) (l c : Nat) (xs : List Op17) : Prop := xs.length = l ∧ Sl h e 8 a l c (xs.flatMap Op17.vals)
theorem OSl.ext {h h' : Hp} {e : Nat} {a : Option Addr} {l c : Nat} {xs : List Op17} (x : Ext h h') (s : OSl h e a l c xs) : OSl h' e a l c xs := ⟨s.1, s.2.ext x⟩
theorem OSl.at {h : Hp} {e : Nat} {a : Option Addr} {l c : Nat} {xs : List Op17} (s : OSl h e a l c xs) {i : Nat} (hi : i < xs.length) : ∃ p, a = some p ∧ At h (p.add (i * 8)) xs[i].vals :=
  s.2.atF (fun _ => rfl) (by decide) (by have := s.1; omega) hi

theorem flat_take {α : Type} {f : α → List Value} {n : Nat} (hf : ∀ x, (f x).length = n) : ∀ (l : List α) (j : Nat), j ≤ l.length → (l.take j).flatMap f = (l.flatMap f).take (j * n)
  | l, 0, _ => by simp
  | [], j + 1, h => by simp at h
  | a :: l, j + 1, h => by
    rw [List.take_succ_cons, List.flatMap_cons, List.flatMap_cons, flat_take hf l j (by simpa using h), Nat.add_mul, Nat.one_mul, List.take_append, hf]
    have e1 : (f a).take (j * n + n) = f a := List.take_of_length_le (by rw [hf]; omega)
    rw [e1, Nat.add_sub_cancel]

/-- The first ones of a slice. -/
theorem Sl.first {h : Hp} {e sz : Nat} {a : Option Addr} {l c : Nat} {vs : List Value} (s : Sl h e sz a l c vs) {j : Nat} (hj : j ≤ l) : Sl h e sz a j c (vs.take (j * sz)) := by
  obtain ⟨h1, h2, h3⟩ := s
  have hle : j * sz ≤ l * sz := Nat.mul_le_mul_right sz hj
  refine ⟨by rw [List.length_take]; omega, by omega, ?_⟩
  rcases h3 with h3 | ⟨b, o, cs, fr, e1, e2, e3⟩
  · exact .inl (by omega)
  · refine .inr ⟨b, o, cs, fr, e1, e2, fun i hi => ?_⟩
    rw [List.length_take] at hi
    rw [e3 i (by omega), List.getElem?_take_of_lt (by omega)]

def good17 (o : Op17) : Prop := o.name.size ≤ 32 ∧ o.name ≠ E0

theorem ok_cut17 {h : Hp} {e : Nat} {a : Option Addr} {l c : Nat} {xs : List Op17} (hs : OSl h e a l c xs) :
    FnH Tryd.prog N_flintlaw17_cut #[.slice a l c] h fun r h' => ∃ n c', r = .slice a n c' ∧ h = h' ∧ n ≤ 40 ∧ n ≤ l ∧ OSl h e a n c' (xs.take n) ∧ ∀ o ∈ xs.take n, good17 o := by
  refine F_flintlaw17_cut.calls a l c h _ ?_
  unfold F_flintlaw17_cut
  have hxl := hs.1
  have first : ∀ j : Nat, j ≤ l → OSl h e a j c (xs.take j) := fun j hj => ⟨by rw [List.length_take]; omega, by
    rw [flat_take (n := 8) (fun _ => rfl) xs j (by omega)]
    exact hs.2.first hj⟩
  refine ⟨fun m i g => ∃ j : Nat, i = j ∧ m + j = l ∧ j ≤ l ∧ h = g ∧ j ≤ 40 ∧ ∀ o ∈ xs.take j, good17 o, ⟨l, 0, rfl, by omega, by omega, rfl, by omega, by simp⟩, ?_⟩
  rintro m i g ⟨j, rfl, hm, hj, rfl, h40, hall⟩
  refine bs (fun ct => ?_) fun cf => ?_
  · have ct : j < l := by have := of_decide_eq_true ct; omega
    have hlt : j < xs.length := by omega
    obtain ⟨p, rfl, hp⟩ := hs.at hlt
    have stop : 0 ≤ (0 : Int) ∧ (0 : Int) ≤ (j : Int) ∧ (j : Int) ≤ ((c : Nat) : Int) ∧ (fun (r : Value) (h' : Hp) => ∃ n c', r = .slice (some p) n c' ∧ h = h' ∧ n ≤ 40 ∧ n ≤ l ∧ OSl h e (some p) n c' (xs.take n) ∧ ∀ o ∈ xs.take n, good17 o) (.slice (subSl (some p) 0 c 8) (Int.toNat ((j : Int) - 0)) (Int.toNat ((c : Int) - 0))) h := by
      have hc := hs.2.2.1
      refine ⟨by omega, by omega, by omega, j, c, ?_, rfl, by omega, by omega, first j hj, hall⟩
      have e1 : Int.toNat ((j : Int) - 0) = j := by omega
      have e2 : Int.toNat ((c : Int) - 0) = c := by omega
      have e3 : subSl (some p) 0 (c : Int) 8 = some p := by
        unfold subSl
        split
        · rfl
        · rw [Option.map_some]; rfl
      rw [e1, e2, e3]
    refine ⟨by omega, by omega, pS ⟨_, _, _, _, _, _, _, _, hp, ?_⟩⟩
    refine bs (fun _ => stop) fun d1 => bs (fun _ => stop) fun d2 => bs (fun _ => stop) fun d3 => ?_
    have d1 : j < 40 := by have := of_decide_eq_false d1; omega
    have d2 : (xs[j]).name.size ≤ 32 := by have := of_decide_eq_false d2; omega
    have d3 : (xs[j]).name ≠ E0 := of_decide_eq_false d3
    refine ⟨by unfold I64; omega, m - 1, by omega, j + 1, by omega, by omega, by omega, rfl, by omega, fun o ho => ?_⟩
    rw [List.take_add_one, List.getElem?_eq_getElem hlt] at ho
    rcases List.mem_append.1 ho with ho | ho
    · exact hall o ho
    · have : o = xs[j] := by simpa using ho
      subst this
      exact ⟨d2, d3⟩
  · have cf : j = l := by have := of_decide_eq_false cf; omega
    subst cf
    exact ⟨_, _, rfl, rfl, by omega, by omega, first _ (by omega), hall⟩

theorem E_raw : (ByteArray.mk #[114, 97, 119]).size = 3 := rfl

/-- What an operation makes of a row. -/
def do17 (l : KV) (o : Op17) : KV :=
  if o.kind = 0 then kset l (kI o.ino) (bOf o.nd.bytes)
  else if o.kind = 1 then kcut l (kI o.ino)
  else if o.kind = 2 then kset l (kE o.dir o.name) (bOf (be 4 o.ino))
  else if o.kind = 3 then kcut l (kE o.dir o.name)
  else kset l (kE o.dir o.name) (ByteArray.mk #[114, 97, 119])

/-- A view of nothing, in which some was done. -/
structure V17 (V : VS) (l : KV) (n : Nat) : Prop where
  base : V.base = []
  shown : V.shown = l
  writes : V.writes.length ≤ n
  reads : V.reads.length ≤ n
  nr : V.nr = 0
  rb : V.rb = none
  len : l.length ≤ n
  small : ∀ x ∈ l, x.2.size < 1000 ∧ ((∃ i, i < 4294967296 ∧ x.1 = kI i) ∨ ∃ d s, d < 4294967296 ∧ s.size ≤ 32 ∧ s ≠ E0 ∧ x.1 = kE d s)

theorem V17.le {V : VS} {l : KV} {n : Nat} (x : V17 V l n) : V.le n := ⟨by rw [x.base]; exact Nat.zero_le _, by rw [x.shown]; exact x.len, x.writes, x.reads, by rw [x.nr]; omega⟩
theorem V17.room {V : VS} {l : KV} {n : Nat} (x : V17 V l n) (hn : n < 48) (k : ByteArray) : V.room k = true := by
  unfold VS.room
  rw [decide_eq_true (Nat.lt_of_le_of_lt x.writes hn), Bool.or_true]

theorem V17.set {V : VS} {l : KV} {n : Nat} (x : V17 V l n) (k s : ByteArray) (hs : s.size < 1000) (hk : (∃ i, i < 4294967296 ∧ k = kI i) ∨ ∃ d s, d < 4294967296 ∧ s.size ≤ 32 ∧ s ≠ E0 ∧ k = kE d s) : V17 (V.set k s) (kset l k s) (n + 1) where
  base := x.base
  shown := by unfold VS.set; rw [x.shown]
  writes := Nat.le_trans (kset_len _ _ _) (Nat.succ_le_succ x.writes)
  reads := Nat.le_succ_of_le x.reads
  nr := x.nr
  rb := x.rb
  len := Nat.le_trans (kset_len _ _ _) (Nat.succ_le_succ x.len)
  small := fun y hy => by
    rcases kset_mem hy with rfl | hy
    · exact ⟨hs, hk⟩
    · exact x.small y hy
theorem V17.cut {V : VS} {l : KV} {n : Nat} (x : V17 V l n) (k : ByteArray) : V17 (V.cut k) (kcut l k) (n + 1) where
  base := x.base
  shown := by unfold VS.cut; rw [x.shown]
  writes := by
    unfold VS.cut
    dsimp only
    split
    · exact Nat.le_trans (kset_len _ _ _) (Nat.succ_le_succ x.writes)
    · exact Nat.le_trans (kcut_len _ _) (Nat.le_succ_of_le x.writes)
  reads := Nat.le_succ_of_le x.reads
  nr := x.nr
  rb := x.rb
  len := Nat.le_trans (kcut_len _ _) (Nat.le_succ_of_le x.len)
  small := fun y hy => x.small y (List.mem_filter.1 hy).1

theorem ok_do17 {h : Hp} {v : Nat} {V : VS} {l : KV} {n : Nat} {a : Option Addr} {al ac : Nat} (hv : VAt h v V) (hV : V17 V l n) (hn : n < 47) (hs : PSl h a al ac l) (o : Op17) (ho : o.ok) (hg : good17 o) :
    FnH Tryd.prog N_flintlaw17_do #[.pointer (some ⟨v, 0, none⟩), .slice a al ac, .agg o.vals.toArray] h fun r h' => ∃ a' l' c' V', r = .slice a' l' c' ∧ VK v none none h h' ∧ VAt h' v V' ∧ V17 V' (do17 l o) (n + 1) ∧ V'.reads = V.reads ∧ PSl h' a' l' c' (do17 l o) := by
  refine F_flintlaw17_do.calls _ a al ac o.kind o.dir o.ino o.name o.nd.k o.nd.l o.nd.s o.nd.p h _ ?_
  unfold F_flintlaw17_do do17
  have hrise : Rise l := by have := hv.rise.2.1; rw [hV.shown] at this; exact this
  have hal : al < 100000000 := by have := hs.1; have := hV.len; omega
  have hle := hV.le
  have hrb := hV.rb
  -- what was done to the view, then the row's turn
  have fin : ∀ (k : ByteArray) (V' : VS) (h1 : Hp), VK v V.rb V.rb h h1 → VAt h1 v (if V.room k then V' else V) → VK v none none h h1 ∧ VAt h1 v V' ∧ PSl h1 a al ac l := by
    intro k V' h1 k1 v1
    rw [hV.room (by omega) k, if_pos rfl] at v1
    rw [hrb] at k1
    refine ⟨k1, v1, hs.ke (VK.ke (rb' := none) hv (by rw [hrb]; exact k1)) rfl⟩
  refine bs (fun c => ?_) fun c => ?_
  · have c : o.kind = 0 := eq_of_beq c
    rw [if_pos c]
    refine (ok_WSave hv o.ino ho.ino ho.nd hle (by omega)).mono ?_
    rintro _ h1 ⟨rfl, k1, v1⟩
    obtain ⟨k1, v1, s1⟩ := fin _ _ _ k1 v1
    refine ⟨_, rfl, ?_⟩
    refine (ok_rSave s1 hrise hal o.ino ho.ino ho.nd).mono ?_
    rintro _ h2 ⟨a', l', c', rfl, e2, po⟩
    exact ⟨_, _, _, rfl, a', l', c', _, rfl, VK.trans v1.ne k1 (VK.ext e2), v1.ext e2, hV.set _ _ (by rw [bOf_size, Nd.bytes_len]; omega) (.inl ⟨_, ho.ino, rfl⟩), rfl, po.psl⟩
  have c : o.kind ≠ 0 := fun e => by rw [e] at c; cases c
  rw [if_neg c]
  refine bs (fun c => ?_) fun c => ?_
  · have c : o.kind = 1 := eq_of_beq c
    rw [if_pos c]
    refine (ok_WDrop hv o.ino ho.ino hle (by omega)).mono ?_
    rintro _ h1 ⟨rfl, k1, v1⟩
    obtain ⟨k1, v1, s1⟩ := fin _ _ _ k1 v1
    refine ⟨_, rfl, ?_⟩
    refine (ok_kI3 o.ino ho.ino h1).mono ?_
    rintro _ h2 ⟨rfl, e2⟩
    refine ⟨_, rfl, ?_⟩
    refine (ok_rCut (s1.ext e2) hal (kI o.ino)).mono ?_
    rintro _ h3 ⟨a', l', c', rfl, e3, po⟩
    have e := e2.trans e3
    exact ⟨_, _, _, rfl, a', l', c', _, rfl, VK.trans v1.ne k1 (VK.ext e), v1.ext e, hV.cut _, rfl, po.psl⟩
  have c : o.kind ≠ 1 := fun e => by rw [e] at c; cases c
  rw [if_neg c]
  refine bs (fun c => ?_) fun c => ?_
  · have c : o.kind = 2 := eq_of_beq c
    rw [if_pos c]
    refine (ok_WHang hv o.dir ho.dir o.name hg.1 o.ino ho.ino hle (by omega)).mono ?_
    rintro _ h1 ⟨rfl, k1, v1⟩
    obtain ⟨k1, v1, s1⟩ := fin _ _ _ k1 v1
    refine ⟨_, rfl, ?_⟩
    refine (ok_rHang s1 hrise hal o.dir ho.dir o.name hg.1 o.ino ho.ino).mono ?_
    rintro _ h2 ⟨a', l', c', rfl, e2, po⟩
    exact ⟨_, _, _, rfl, a', l', c', _, rfl, VK.trans v1.ne k1 (VK.ext e2), v1.ext e2, hV.set _ _ (by rw [bOf_size, be_len]; omega) (.inr ⟨_, _, ho.dir, hg.1, hg.2, rfl⟩), rfl, po.psl⟩
  have c : o.kind ≠ 2 := fun e => by rw [e] at c; cases c
  rw [if_neg c]
  refine bs (fun c => ?_) fun c => ?_
  · have c : o.kind = 3 := eq_of_beq c
    rw [if_pos c]
    refine (ok_WUnhang hv o.dir ho.dir o.name hg.1 hle (by omega)).mono ?_
    rintro _ h1 ⟨rfl, k1, v1⟩
    obtain ⟨k1, v1, s1⟩ := fin _ _ _ k1 v1
    refine ⟨_, rfl, ?_⟩
    refine (ok_kE3 o.dir ho.dir o.name hg.1 h1).mono ?_
    rintro _ h2 ⟨rfl, e2⟩
    refine ⟨_, rfl, ?_⟩
    refine (ok_rCut (s1.ext e2) hal (kE o.dir o.name)).mono ?_
    rintro _ h3 ⟨a', l', c', rfl, e3, po⟩
    have e := e2.trans e3
    exact ⟨_, _, _, rfl, a', l', c', _, rfl, VK.trans v1.ne k1 (VK.ext e), v1.ext e, hV.cut _, rfl, po.psl⟩
  have c : o.kind ≠ 3 := fun e => by rw [e] at c; cases c
  rw [if_neg c]
  refine (ok_kE3 o.dir ho.dir o.name hg.1 h).mono ?_
  rintro _ h1 ⟨rfl, e1⟩
  refine ⟨_, rfl, ?_⟩
  refine (ok_VSet (hv.ext e1) (kE o.dir o.name) (ByteArray.mk #[114, 97, 119]) hle (by omega) (by rw [E_raw]; omega)).mono ?_
  rintro _ h2 ⟨rfl, k2, v2⟩
  obtain ⟨k2, v2, s2⟩ := fin _ _ _ (VK.trans (hv.ext e1).ne (VK.ext e1) k2) v2
  refine ⟨_, rfl, ?_⟩
  refine (ok_kE3 o.dir ho.dir o.name hg.1 h2).mono ?_
  rintro _ h3 ⟨rfl, e3⟩
  refine ⟨_, rfl, ?_⟩
  refine (ok_rSet (s2.ext e3) hrise hal (kE o.dir o.name) (ByteArray.mk #[114, 97, 119])).mono ?_
  rintro _ h4 ⟨a', l', c', rfl, e4, po⟩
  have e := e3.trans e4
  exact ⟨_, _, _, rfl, a', l', c', _, rfl, VK.trans v2.ne k2 (VK.ext e), v2.ext e, hV.set _ _ (by rw [E_raw]; omega) (.inr ⟨_, _, ho.dir, hg.1, hg.2, rfl⟩), rfl, po.psl⟩

theorem ok_TNew (h : Hp) : FnH Tryd.prog N_tree_New #[] h fun r h' => r = .pointer none ∧ h = h' := by
  refine F_tree_New.calls h _ ?_
  unfold F_tree_New
  exact ⟨rfl, rfl⟩

theorem ok_fixed17 (h : Hp) : FnH Tryd.prog N_flintlaw17_fixed #[] h fun r h' => r = .bool true ∧ Ext h h' := by
  refine F_flintlaw17_fixed.calls h _ ?_
  unfold F_flintlaw17_fixed
  refine (ok_TNew h).mono ?_
  rintro _ _ ⟨rfl, rfl⟩
  refine ⟨_, rfl, ?_⟩
  refine (ok_VNew (l := []) MapAt.nil).mono ?_
  rintro _ h1 ⟨v, rfl, hv, e1, v1⟩
  refine ⟨_, rfl, ?_⟩
  refine (ok_WFind v1 (by intro x hx; cases hx) (ByteArray.mk #[47, 97]) (show 2 < 1000000000 by omega) (m := 10) ⟨by simp, by simp, by simp, by simp, by simp⟩ (by omega)).mono ?_
  rintro _ h2 ⟨rd, rfl, k2, _⟩
  have hf : find [] (ByteArray.mk #[47, 97]) = (0, ⟨1, ByteArray.mk #[97], 0, Nd.zero⟩) := by rfl
  rw [hf]
  refine ⟨_, _, _, _, _, _, _, _, rfl, ?_⟩
  refine bsT rfl ⟨?_, (VK.ext0 e1 k2 hv (by simp)).1⟩
  rfl

/-! Names, as both see them. -/
theorem kE_list (n : Nat) (s : ByteArray) : (kE n s).data.toList = keyOf 69 n ++ s.data.toList := by simp [kE, bOf]
theorem kI_list (n : Nat) : (kI n).data.toList = keyOf 73 n := by simp [kI, bOf]
theorem unb_be4 {n : Nat} (h : n < 4294967296) : unb (be 4 n) = n := by
  rw [unb_be]
  exact Nat.mod_eq_of_lt h
theorem parts_kI (n : Nat) : (keyParts (kI n).data.toList).1 = 73 := by
  rw [kI_list]
  unfold keyParts
  rw [if_neg (by rw [keyOf_len]; omega), if_pos (show (keyOf 73 n).head? = some 73 from rfl), if_pos (keyOf_len _ _)]
theorem parts_kE {n : Nat} (hn : n < 4294967296) {s : ByteArray} (h1 : s.size ≤ 32) (h2 : s ≠ E0) : keyParts (kE n s).data.toList = (69, n, s.data.toList, 0) := by
  have hl : (keyOf 69 n ++ s.data.toList).length = 5 + s.size := by rw [List.length_append, keyOf_len, size_list]
  have h0 : s.size ≠ 0 := fun h => h2 (ByteArray.size_eq_zero_iff.1 h)
  rw [kE_list]
  unfold keyParts
  have e1 : (keyOf 69 n ++ s.data.toList).head? = some 69 := rfl
  rw [if_neg (by omega), e1, if_neg (by decide), if_pos rfl, if_pos ⟨by omega, by omega⟩]
  have e2 : ((keyOf 69 n ++ s.data.toList).drop 1).take 4 = be 4 n := by
    show (be 4 n ++ s.data.toList).take 4 = be 4 n
    rw [List.take_append_of_le_length (by rw [be_len]; omega), List.take_of_length_le (by rw [be_len]; omega)]
  have e3 : (keyOf 69 n ++ s.data.toList).drop 5 = s.data.toList := by
    rw [List.drop_append, keyOf_len, List.drop_of_length_le (by rw [keyOf_len]; omega)]
    simp
  rw [e2, e3, unb_be4 hn]

theorem names_len (d : Nat) (hd : d < 4294967296) : ∀ l : KV, (∀ x ∈ l, ((∃ i, i < 4294967296 ∧ x.1 = kI i) ∨ ∃ d s, d < 4294967296 ∧ s.size ≤ 32 ∧ s ≠ E0 ∧ x.1 = kE d s)) → (nms l d).length = (rnms l d).length
  | [], _ => rfl
  | x :: l, h => by
    have ih := names_len d hd l fun y hy => h y (List.mem_cons_of_mem _ hy)
    unfold nms rnms krange at ih ⊢
    rw [List.length_map] at ih ⊢
    rw [List.flatMap_cons, List.length_append, ← ih]
    have hx := h x (List.mem_cons_self ..)
    have key : ((!strLt x.1 (kE d E0)) && strLt x.1 (kEnd d)) = true ↔ ((keyParts x.1.data.toList).1 = 69 ∧ (keyParts x.1.data.toList).2.1 = d) := by
      rw [Bool.and_eq_true, Bool.not_eq_true', in_entries]
      rcases hx with ⟨i, hi, e⟩ | ⟨d', s, hd', h1, h2, e⟩
      · rw [e]
        constructor
        · rintro ⟨t, ht⟩
          rw [kI_list] at ht
          cases ht
        · rintro ⟨ht, _⟩
          rw [parts_kI] at ht
          cases ht
      · rw [e, parts_kE hd' h1 h2]
        constructor
        · rintro ⟨t, ht⟩
          rw [kE_list] at ht
          refine ⟨rfl, ?_⟩
          have ht : be 4 d' ++ s.data.toList = be 4 d ++ t := (List.cons.inj ht).2
          have := (List.append_inj ht (by rw [be_len, be_len])).1
          have h3 := congrArg unb this
          rw [unb_be4 hd', unb_be4 hd] at h3
          exact h3
        · rintro ⟨_, ht⟩
          have ht : d' = d := ht
          subst ht
          exact ⟨_, kE_list _ _⟩
    rw [List.filter_cons]
    by_cases hc : ((!strLt x.1 (kE d E0)) && strLt x.1 (kEnd d)) = true
    · rw [if_pos hc, if_pos (key.1 hc), List.length_cons, List.length_singleton]; omega
    · rw [if_neg hc, if_neg (fun hh => hc (key.2 hh)), List.length_nil]; omega

theorem kcut_kset {l : KV} (hl : Rise l) (k v : ByteArray) : kcut (kset l k v) k = kcut l k := by
  refine rise_ext (kcut_rise (kset_rise hl k v) k) (kcut_rise hl k) fun j => ?_
  rw [kget_kcut, kget_kcut, kget_kset hl]
  by_cases h : k = j
  · rw [if_pos h, if_pos h]
  · rw [if_neg h, if_neg h, if_neg h]

/-! The laws. -/
theorem ok_WalkHangs {h : Hp} {e : Nat} {a : Option Addr} {l c : Nat} {xs : List Op17} (hs : OSl h e a l c xs) (ho : ∀ o ∈ xs, o.ok) (d n : Nat) (hd : d < 4294967296) (hn : n < 4294967296) (s : ByteArray) :
    FnH Tryd.prog N_flintlaw17_WalkHangs #[.slice a l c, .int .u32 d, .int .u32 n, .string s] h fun r h' => r = .bool true ∧ Ext h h' := by
  refine F_flintlaw17_WalkHangs.calls a l c d n s h _ ?_
  unfold F_flintlaw17_WalkHangs
  have fix : FnH Tryd.prog N_flintlaw17_fixed #[] h fun v h' => ∃ b, v = .bool b ∧ (fun (r : Value) (h' : Hp) => r = .bool true ∧ Ext h h') (.bool b) h' := by
    refine (ok_fixed17 h).mono ?_
    rintro _ h' ⟨rfl, e'⟩
    exact ⟨_, rfl, rfl, e'⟩
  refine bs (fun _ => fix) fun c1 => bs (fun _ => fix) fun c2 => ?_
  have c1 : s.size ≤ 32 := by have := of_decide_eq_false c1; omega
  have c2 : s ≠ E0 := of_decide_eq_false c2
  refine (ok_TNew h).mono ?_
  rintro _ _ ⟨rfl, rfl⟩
  refine ⟨_, rfl, ?_⟩
  refine (ok_VNew (l := []) MapAt.nil).mono ?_
  rintro _ h1 ⟨v, rfl, hv, e1, v1⟩
  refine ⟨_, rfl, ?_⟩
  refine (ok_cut17 (hs.ext e1)).mono ?_
  rintro _ _ ⟨k, c', rfl, rfl, hk40, hkl, ops, good⟩
  refine ⟨_, _, _, rfl, ?_⟩
  have hxk : (xs.take k).length = k := ops.1
  refine ⟨fun m a' l' c' i g => ∃ (j : Nat) (V : VS) (lr : KV), i = j ∧ m + j = k ∧ j ≤ k ∧ Ext h g ∧ VAt g v V ∧ V17 V lr j ∧ PSl g a' l' c' lr, ⟨k, 0, _, [], rfl, rfl, by omega, e1, v1, ⟨rfl, rfl, by simp, by simp, rfl, rfl, by simp, by simp⟩, PSl.nil⟩, ?_⟩
  rintro m a' l' c'' i g ⟨j, V, lr, rfl, hm, hj, hg, vg, hV, ps⟩
  refine bs (fun ct => ?_) fun cf => ?_
  · have ct : j < k := by have := of_decide_eq_true ct; omega
    have hlt : j < (xs.take k).length := by omega
    have hmem := List.getElem_mem hlt
    have hmem2 := List.mem_of_mem_take hmem
    have opsg : OSl g e a k c' (xs.take k) := by
      obtain ⟨q1, q2⟩ := hs
      refine ⟨hxk, ?_⟩
      have := (Sl.ext hg q2).first hkl
      rw [← flat_take (n := 8) (fun _ => rfl) xs k (by omega)] at this
      exact ⟨this.1, ops.2.2.1, this.2.2⟩
    obtain ⟨p, rfl, hp⟩ := opsg.at hlt
    refine ⟨by omega, by omega, pS ⟨_, _, _, _, _, _, _, _, hp, ?_⟩⟩
    refine (ok_do17 vg hV (by omega) ps _ (ho _ hmem2) (good _ hmem)).mono ?_
    rintro _ g2 ⟨a2, l2, c2', V2, rfl, k2, v2, hV2, _, ps2⟩
    refine ⟨_, _, _, rfl, by unfold I64; omega, m - 1, by omega, j + 1, V2, _, by omega, by omega, by omega, (VK.ext0 hg k2 hv (by simp)).1, v2, hV2, ps2⟩
  · have cf : j = k := by have := of_decide_eq_false cf; omega
    subst cf
    have hrise : Rise lr := by have := vg.rise.2.1; rw [hV.shown] at this; exact this
    have kk : (∃ i, i < 4294967296 ∧ kE d s = kI i) ∨ ∃ d' s', d' < 4294967296 ∧ s'.size ≤ 32 ∧ s' ≠ E0 ∧ kE d s = kE d' s' := .inr ⟨d, s, hd, c1, c2, rfl⟩
    refine (ok_WHang vg d hd s c1 n hn hV.le (by omega)).mono ?_
    rintro _ g1 ⟨rfl, k1, v1⟩
    rw [hV.room (by omega), if_pos rfl] at v1
    rw [hV.room (by omega)]
    rw [hV.rb] at k1
    have hV1 := hV.set (kE d s) (bOf (be 4 n)) (by rw [bOf_size, be_len]; omega) kk
    have e1 := (VK.ext0 hg k1 hv (by simp)).1
    have ps1 : PSl g1 a' l' c'' lr := ps.ke (VK.ke (rb' := none) vg (by rw [hV.rb]; exact k1)) rfl
    refine ⟨_, rfl, ?_⟩
    have sm : ∀ {V' : VS} {lr' : KV} {q : Nat}, V17 V' lr' q → Small V'.shown := by
      intro V' lr' q hq x hx
      rw [hq.shown] at hx
      have := (hq.small x hx).1
      omega
    refine (ok_WChild v1 (sm hV1) d hd s c1 hV1.le (by omega)).mono ?_
    rintro _ g2 ⟨rfl, k2, v2⟩
    rw [hV1.rb] at k2
    have e2 := (VK.ext0 e1 k2 hv (by simp)).1
    have ps2 : PSl g2 a' l' c'' lr := ps1.ke (VK.ke (rb' := none) v1 (by rw [hV1.rb]; exact k2)) rfl
    have hch : child (V.set (kE d s) (bOf (be 4 n))).shown d s = some n := by
      unfold child
      rw [hV1.shown, kget_kset hrise, if_pos rfl]
      dsimp only
      rw [if_pos (by rw [bOf_size, be_len]), bOf_list, unb_be4 hn]
    rw [hch]
    refine ⟨_, _, rfl, ?_⟩
    have hV2 : V17 { V.set (kE d s) (bOf (be 4 n)) with reads := kset (V.set (kE d s) (bOf (be 4 n))).reads (kE d s) E0 } (kset lr (kE d s) (bOf (be 4 n))) (j + 2) :=
      ⟨hV1.base, hV1.shown, Nat.le_succ_of_le hV1.writes, Nat.le_trans (kset_len _ _ _) (Nat.succ_le_succ hV1.reads), hV1.nr, hV1.rb, Nat.le_succ_of_le hV1.len, hV1.small⟩
    generalize { V.set (kE d s) (bOf (be 4 n)) with reads := kset (V.set (kE d s) (bOf (be 4 n))).reads (kE d s) E0 } = V2 at hV2 v2
    refine (ok_WUnhang v2 d hd s c1 hV2.le (by omega)).mono ?_
    rintro _ g3 ⟨rfl, k3, v3⟩
    rw [hV2.room (by omega), if_pos rfl] at v3
    rw [hV2.room (by omega)]
    have ps3 : PSl g3 a' l' c'' lr := ps2.ke (VK.ke v2 k3) rfl
    rw [hV2.rb] at k3
    have e3 := (VK.ext0 e2 k3 hv (by simp)).1
    have hV3 := hV2.cut (kE d s)
    rw [kcut_kset hrise] at hV3
    refine ⟨_, rfl, ?_⟩
    refine (ok_WChild v3 (sm hV3) d hd s c1 hV3.le (by omega)).mono ?_
    rintro _ g4 ⟨rfl, k4, v4⟩
    have ps4 : PSl g4 a' l' c'' lr := ps3.ke (VK.ke v3 k4) rfl
    rw [hV3.rb] at k4
    have e4 := (VK.ext0 e3 k4 hv (by simp)).1
    have hch : child (V2.cut (kE d s)).shown d s = none := by
      unfold child
      rw [hV3.shown, kget_kcut, if_pos rfl]
    rw [hch]
    refine ⟨_, _, rfl, ?_⟩
    have hV4 : V17 { V2.cut (kE d s) with reads := kset (V2.cut (kE d s)).reads (kE d s) E0 } (kcut lr (kE d s)) (j + 4) :=
      ⟨hV3.base, hV3.shown, Nat.le_succ_of_le hV3.writes, Nat.le_trans (kset_len _ _ _) (Nat.succ_le_succ hV3.reads), hV3.nr, hV3.rb, Nat.le_succ_of_le hV3.len, hV3.small⟩
    generalize { V2.cut (kE d s) with reads := kset (V2.cut (kE d s)).reads (kE d s) E0 } = V4 at hV4 v4
    refine (ok_fixed17 g4).mono ?_
    rintro _ g5 ⟨rfl, e5⟩
    refine ⟨_, rfl, bsT rfl (bsT rfl (bsT rfl (bsT (by simp) (bsT rfl (bsT rfl ?_)))))⟩
    refine (ok_WList (v4.ext e5) d hd hV4.le (by omega)).mono ?_
    rintro _ g6 ⟨nr, rb, a6, l6, c6, rfl, hnr, k6, v6, so⟩
    have ps6 : PSl g6 a' l' c'' lr := (ps4.ext e5).ke (VK.ke (v4.ext e5) k6) rfl
    rw [hV4.rb] at k6
    have e6 := (VK.ext0 (e4.trans e5) k6 hv (by simp)).1
    refine ⟨_, _, _, rfl, ?_⟩
    refine (ok_kE3 d hd s c1 g6).mono ?_
    rintro _ g7 ⟨rfl, e7⟩
    refine ⟨_, rfl, ?_⟩
    have hll : l' < 100000000 := by have := ps.1; have := hV.len; omega
    refine (ok_rCut (ps6.ext e7) hll (kE d s)).mono ?_
    rintro _ g8 ⟨a8, l8, c8, rfl, e8, po⟩
    refine ⟨_, _, _, rfl, ?_⟩
    have hkl := kcut_len lr (kE d s)
    have hl8 : l8 < 100000000 := by have := po.1; have := hV.len; omega
    have shape := fun x hx => (hV4.small x hx).2
    refine (ok_rList po.psl hl8 (fun x hx => ?_) d).mono ?_
    · rcases shape x hx with ⟨i, _, e⟩ | ⟨d', s', _, h2, _, e⟩
      · rw [e, size_list, kI_list, keyOf_len]; omega
      · rw [e, size_list, kE_list, List.length_append, keyOf_len, ← size_list]; omega
    rintro _ g9 ⟨a9, l9, c9, rfl, e9, so9⟩
    refine ⟨_, _, _, rfl, ?_, ((e6.trans e7).trans e8).trans e9⟩
    have h6 := so.1
    have h9 := so9.1
    rw [hV4.shown, names_len d hd _ shape, h9] at h6
    rw [h6]
    simp

/-- A slice of one's own stays, where a block turns that was there before. -/
theorem Out.away {h0 h h' : Hp} {e sz b : Nat} {a : Option Addr} {l c : Nat} {vs : List Value} (o : Out h0 h e sz a l c vs) (hb : h0 b ≠ none) (k : ∀ i x, i ≠ b → h i = some x → h' i = some x) : Sl h' e sz a l c vs := by
  obtain ⟨⟨s1, s2, s3⟩, o⟩ := o
  refine ⟨s1, s2, ?_⟩
  rcases o with o | ⟨b1, f, cs, e1, e2, e3, e4⟩
  · left
    have : l * sz ≤ c * sz := Nat.mul_le_mul_right sz s2
    omega
  · refine s3.imp id ?_
    rintro ⟨b2, o2, cs2, fr2, q1, q2, q3⟩
    rw [e1] at q1
    cases q1
    refine ⟨b1, f, cs2, fr2, e1, k _ _ ?_ q2, q3⟩
    rintro rfl
    exact hb e2

theorem has_mem {l : KV} {k : ByteArray} (h : has l k) : k ∈ l.map Prod.fst := by
  unfold has at h
  cases hk : kget l k with
  | none => rw [hk] at h; cases h
  | some v => exact List.mem_map.2 ⟨_, kget_some hk, rfl⟩

theorem pathNames_err (p : List UInt8) : (pathNames p).1 = 0 ∨ (pathNames p).1 = 15 ∨ (pathNames p).1 = 17 := by
  unfold pathNames
  split
  · exact .inr (.inr rfl)
  · split
    · exact .inr (.inl rfl)
    · split
      · exact .inl rfl
      · split
        · exact .inl rfl
        · exact .inr (.inr rfl)
theorem findL_code (l : KV) : ∀ (xs : List ByteArray) (t : Spt), (findL l t xs).1 = 0 ∨ (findL l t xs).1 = 10 ∨ (findL l t xs).1 = 12
  | [], t => .inl rfl
  | s :: r, t => by
    rw [findL_cons]
    split
    · exact .inr (.inl rfl)
    · split
      · exact .inr (.inr rfl)
      · exact findL_code l r _
theorem find_code {l : KV} {p : ByteArray} (h : (find l p).1 = 15 ∨ (find l p).1 = 17) : (pathNames p.data.toList).1 ≠ 0 := by
  intro e
  unfold find at h
  rw [if_neg (by simp [e])] at h
  rcases findL_code l ((pathNames p.data.toList).2.map bOf) (Spt.root l) with q | q | q <;> rw [q] at h <;> simp at h
theorem find_code2 {l : KV} {p : ByteArray} (h1 : (find l p).1 ≠ 15) (h2 : (find l p).1 ≠ 17) : (pathNames p.data.toList).1 = 0 := by
  rcases pathNames_err p.data.toList with q | q | q
  · exact q
  · unfold find at h1
    rw [q] at h1
    simp at h1
  · unfold find at h2
    rw [q] at h2
    simp at h2

theorem findL_ok (l : KV) : ∀ (xs : List ByteArray) (t : Spt), t.ok → (∀ x ∈ xs, x.size ≤ 32) → (findL l t xs).2.ok
  | [], t, h, _ => h
  | s :: r, t, h, hx => by
    rw [findL_cons]
    split
    · exact Spt.zero_ok
    · split
      · exact Spt.zero_ok
      · exact findL_ok l r _ (stepTo_ok h (hx s (List.mem_cons_self ..))) fun x hm => hx x (List.mem_cons_of_mem _ hm)
theorem find_ok (l : KV) (p : ByteArray) : (find l p).2.ok := by
  unfold find
  split
  · exact Spt.zero_ok
  · rename_i hc
    have hc : (pathNames p.data.toList).1 = 0 := by simpa using hc
    refine findL_ok l _ _ (root_ok l) fun x hx => ?_
    obtain ⟨y, hy, rfl⟩ := List.mem_map.1 hx
    rw [bOf_size]
    exact (nameOk_len ((pathNames_ok hc).2 y hy)).2

theorem ok_WalkReads {h : Hp} {e : Nat} {a : Option Addr} {l c : Nat} {xs : List Op17} (hs : OSl h e a l c xs) (ho : ∀ o ∈ xs, o.ok) (s : ByteArray) :
    FnH Tryd.prog N_flintlaw17_WalkReads #[.slice a l c, .string s] h fun r h' => r = .bool true ∧ Ext h h' := by
  refine F_flintlaw17_WalkReads.calls a l c s h _ ?_
  unfold F_flintlaw17_WalkReads
  refine bs (fun _ => ?_) fun c1 => ?_
  · refine (ok_fixed17 h).mono ?_
    rintro _ h' ⟨rfl, e'⟩
    exact ⟨_, rfl, rfl, e'⟩
  have c1 : s.size ≤ 3000 := by have := of_decide_eq_false c1; omega
  refine (ok_TNew h).mono ?_
  rintro _ _ ⟨rfl, rfl⟩
  refine ⟨_, rfl, ?_⟩
  refine (ok_VNew (l := []) MapAt.nil).mono ?_
  rintro _ h1 ⟨v, rfl, hv, e1, v1⟩
  refine ⟨_, rfl, ?_⟩
  refine (ok_cut17 (hs.ext e1)).mono ?_
  rintro _ _ ⟨k, c', rfl, rfl, hk40, hkl, ops, good⟩
  refine ⟨_, _, _, rfl, ?_⟩
  have hxk : (xs.take k).length = k := ops.1
  refine ⟨fun m a' l' c' i g => ∃ (j : Nat) (V : VS) (lr : KV), i = j ∧ m + j = k ∧ j ≤ k ∧ Ext h g ∧ VAt g v V ∧ V17 V lr j ∧ V.reads = [] ∧ PSl g a' l' c' lr, ⟨k, 0, _, [], rfl, rfl, by omega, e1, v1, ⟨rfl, rfl, by simp, by simp, rfl, rfl, by simp, by simp⟩, rfl, PSl.nil⟩, ?_⟩
  rintro m a' l' c'' i g ⟨j, V, lr, rfl, hm, hj, hg, vg, hV, hVr, ps⟩
  refine bs (fun ct => ?_) fun cf => ?_
  · have ct : j < k := by have := of_decide_eq_true ct; omega
    have hlt : j < (xs.take k).length := by omega
    have hmem := List.getElem_mem hlt
    have hmem2 := List.mem_of_mem_take hmem
    have opsg : OSl g e a k c' (xs.take k) := by
      obtain ⟨q1, q2⟩ := hs
      refine ⟨hxk, ?_⟩
      have := (Sl.ext hg q2).first hkl
      rw [← flat_take (n := 8) (fun _ => rfl) xs k (by omega)] at this
      exact ⟨this.1, ops.2.2.1, this.2.2⟩
    obtain ⟨p, rfl, hp⟩ := opsg.at hlt
    refine ⟨by omega, by omega, pS ⟨_, _, _, _, _, _, _, _, hp, ?_⟩⟩
    refine (ok_do17 vg hV (by omega) ps _ (ho _ hmem2) (good _ hmem)).mono ?_
    rintro _ g2 ⟨a2, l2, c2', V2, rfl, k2, v2, hV2, hr2, ps2⟩
    refine ⟨_, _, _, rfl, by unfold I64; omega, m - 1, by omega, j + 1, V2, _, by omega, by omega, by omega, (VK.ext0 hg k2 hv (by simp)).1, v2, hV2, by rw [hr2, hVr], ps2⟩
  · have cf : j = k := by have := of_decide_eq_false cf; omega
    subst cf
    have sm : Small V.shown := by
      intro x hx
      rw [hV.shown] at hx
      have := (hV.small x hx).1
      omega
    refine (ok_WFind vg sm s (by omega) hV.le (by omega)).mono ?_
    rintro _ g1 ⟨rd, rfl, k1, v1, hrd, hT, hN⟩
    rw [hV.rb] at k1
    have eg1 := (VK.ext0 hg k1 hv (by simp)).1
    refine ⟨_, _, _, _, _, _, _, _, rfl, fun b hb => ?_⟩
    have eb := Ext.new (h := g1) (o := .map #[] 0) hb
    have hrdl : rd.length < 1000 := by rw [hVr] at hrd; simp at hrd; omega
    have hle : ({ V with reads := rd } : VS).le 1000 := ⟨by rw [hV.base]; simp, by rw [hV.shown]; have := hV.len; omega, by have := hV.writes; show V.writes.length ≤ _; omega, by show rd.length ≤ _; omega, by show V.nr ≤ _; rw [hV.nr]; omega⟩
    refine (ok_VReads (v1.ext eb) hle (by omega)).mono ?_
    rintro _ g2 ⟨ar, lr2, cr, rfl, e2, so⟩
    refine ⟨_, _, _, rfl, ?_⟩
    have hb2 : g2 b = some (.map #[] 0) := e2 _ _ (Hp.set_same _ _ _)
    have hsl : rd.length = lr2 := by
      have := so.1
      rw [List.length_map] at this
      exact this
    have hb0 : h b = none := eg1.none hb
    refine ⟨fun m i g => ∃ j : Nat, i = j ∧ m + j = lr2 ∧ j ≤ lr2 ∧ (∀ i x, i ≠ b → g2 i = some x → g i = some x) ∧ MpAt g b .str (setOf ((rd.map Prod.fst).take j)), ⟨lr2, 0, rfl, by omega, by omega, (fun _ _ _ hx => hx), MpAt.strNil hb2⟩, ?_⟩
    rintro m i g3 ⟨j3, rfl, hm3, hj3, hg3, mp⟩
    refine bs (fun ct => ?_) fun cf => ?_
    · have ct : j3 < lr2 := by have := of_decide_eq_true ct; omega
      have hlt : j3 < (rd.map Prod.fst).length := by rw [List.length_map]; omega
      have ssl : SSl g3 ar lr2 cr (rd.map Prod.fst) := ⟨so.1, so.2.away (b := b) (by rw [Hp.set_same]; simp) hg3⟩
      obtain ⟨p, rfl, hp⟩ := ssl.at hlt
      refine ⟨by omega, by omega, pS ⟨_, hp, hmapI mp (fun _ => ?_) fun o mo => ⟨by unfold I64; omega, m - 1, by omega, j3 + 1, by omega, by omega, by omega, fun i x hi hx => ?_, ?_⟩⟩⟩
      · intro e he
        have := List.mem_singleton.1 he
        subst this
        exact ⟨_, rfl⟩
      · rw [Hp.set_ne _ _ hi]; exact hg3 _ _ hi hx
      · rw [List.take_add_one, List.getElem?_eq_getElem hlt, Option.toList_some, setOf_snoc]
        exact mo
    · have cf : j3 = lr2 := by have := of_decide_eq_false cf; omega
      subst cf
      rw [List.take_of_length_le (by rw [List.length_map]; omega)] at mp
      have eg3 : Ext h g3 := fun i x hx => hg3 i x (by rintro rfl; rw [hb0] at hx; cases hx) (e2 _ _ (eb _ _ (eg1 _ _ hx)))
      -- what a key's look-up answers
      have look : ∀ {g' : Hp} {key : ByteArray} {K : Value → Prop}, Ext g3 g' → has rd key → K (.bool true) → ∃ es, MapIs g' (some b) es ∧ keysOf (Kd.str) es ∧ ∃ (bb : Bool), (mfind (.string key) es).getD (.bool false) = .bool bb ∧ K (.bool bb) := by
        intro g' key K eg' hk hK
        obtain ⟨es, m1, m2, m3, _⟩ := (mp.ext eg').is
        refine ⟨es, m1, m2, true, ?_, hK⟩
        rw [m3, lup_setOf (has_mem hk)]; rfl
      have none' : ∀ {g' : Hp} {K : Value → Prop}, Ext g3 g' → (pathNames s.data.toList).1 ≠ 0 → K (.bool true) → ∃ es, MapIs g' (some b) es ∧ K (.bool ((es.length : Int) == 0)) := by
        intro g' K eg' hk hK
        obtain ⟨es, m1, m2, _, m4⟩ := (mp.ext eg').is
        refine ⟨es, m1, ?_⟩
        have : rd = [] := by rw [hN hk, hVr]
        subst this
        have : es.length = 0 := m4
        rw [this]; exact hK
      refine bs (fun f => ?_) fun f1 => ?_
      · have f := beq_nat (b := 17) f
        refine (ok_fixed17 g3).mono ?_
        rintro _ g4 ⟨rfl, e4⟩
        exact ⟨_, rfl, bsT rfl (none' (K := fun v => v = .bool true ∧ Ext h g4) e4 (find_code (.inr f)) ⟨rfl, eg3.trans e4⟩)⟩
      refine bs (fun f => ?_) fun f2 => ?_
      · have f := beq_nat (b := 15) f
        refine (ok_fixed17 g3).mono ?_
        rintro _ g4 ⟨rfl, e4⟩
        exact ⟨_, rfl, bsT rfl (none' (K := fun v => v = .bool true ∧ Ext h g4) e4 (find_code (.inl f)) ⟨rfl, eg3.trans e4⟩)⟩
      have hp0 := find_code2 (l := V.shown) (p := s) (fun hh => by rw [hh] at f2; cases f2) (fun hh => by rw [hh] at f1; cases f1)
      obtain ⟨hk1, hTr⟩ := hT hp0
      refine bs (fun f => ?_) fun f3 => ?_
      · refine (ok_fixed17 g3).mono ?_
        rintro _ g4 ⟨rfl, e4⟩
        refine ⟨_, rfl, bsT rfl ?_⟩
        refine (ok_kI3 1 (by omega) g4).mono ?_
        rintro _ g5 ⟨rfl, e5⟩
        exact ⟨_, rfl, look (K := fun v => v = .bool true ∧ Ext h g5) (e4.trans e5) hk1 ⟨rfl, eg3.trans (e4.trans e5)⟩⟩
      have f3 : (find V.shown s).1 = 0 := by
        have : ((find V.shown s).1 : Int) = 0 := by simpa using f3
        omega
      obtain ⟨_, t2, t3, t4⟩ := hTr f3
      have tok := find_ok V.shown s
      have dirq : ∀ g', Ext g3 g' → bsplit (((find V.shown s).2.dir : Int) == 0) (Value.bool true = .bool true ∧ Ext h g') (FnH Tryd.prog N_flintref09_Inode #[.int .u32 (find V.shown s).2.dir] g' fun v h' => ∃ s : ByteArray, v = .string s ∧ ∃ es, MapIs h' (some b) es ∧ keysOf (Kd.str) es ∧ ∃ bb : Bool, (mfind (.string s) es).getD (.bool false) = .bool bb ∧ Value.bool bb = .bool true ∧ Ext h h') := by
        intro g' eg'
        refine bs (fun _ => ⟨rfl, eg3.trans eg'⟩) fun q => ?_
        refine (ok_kI3 _ tok.dir g').mono ?_
        rintro _ g'' ⟨rfl, e''⟩
        exact ⟨_, rfl, look (K := fun v => v = .bool true ∧ Ext h g'') (eg'.trans e'') (t4 fun hh => by rw [hh] at q; cases q) ⟨rfl, eg3.trans (eg'.trans e'')⟩⟩
      have inoq : ∀ g', Ext g3 g' → bsplit (((find V.shown s).2.ino : Int) == 0)
          (bsplit (((find V.shown s).2.dir : Int) == 0) (Value.bool true = .bool true ∧ Ext h g') (FnH Tryd.prog N_flintref09_Inode #[.int .u32 (find V.shown s).2.dir] g' fun v h' => ∃ s : ByteArray, v = .string s ∧ ∃ es, MapIs h' (some b) es ∧ keysOf (Kd.str) es ∧ ∃ bb : Bool, (mfind (.string s) es).getD (.bool false) = .bool bb ∧ Value.bool bb = .bool true ∧ Ext h h'))
          (FnH Tryd.prog N_flintref09_Inode #[.int .u32 (find V.shown s).2.ino] g' fun v g' => ∃ s' : ByteArray, v = .string s' ∧ ∃ es, MapIs g' (some b) es ∧ keysOf (Kd.str) es ∧ ∃ bb : Bool, (mfind (.string s') es).getD (.bool false) = .bool bb ∧
            bsplit bb (bsplit (((find V.shown s).2.dir : Int) == 0) (Value.bool true = .bool true ∧ Ext h g') (FnH Tryd.prog N_flintref09_Inode #[.int .u32 (find V.shown s).2.dir] g' fun v h' => ∃ s : ByteArray, v = .string s ∧ ∃ es, MapIs h' (some b) es ∧ keysOf (Kd.str) es ∧ ∃ bb : Bool, (mfind (.string s) es).getD (.bool false) = .bool bb ∧ Value.bool bb = .bool true ∧ Ext h h')) (Value.bool false = .bool true ∧ Ext h g')) := by
        intro g' eg'
        refine bs (fun _ => dirq g' eg') fun q => ?_
        refine (ok_kI3 _ tok.ino g').mono ?_
        rintro _ g'' ⟨rfl, e''⟩
        obtain ⟨es, m1, m2, m3, _⟩ := (mp.ext (eg'.trans e'')).is
        refine ⟨_, rfl, es, m1, m2, true, ?_, bsT rfl (dirq g'' (eg'.trans e''))⟩
        rw [m3, lup_setOf (has_mem (t3 fun hh => by rw [hh] at q; cases q))]; rfl
      refine (ok_fixed17 g3).mono ?_
      rintro _ g4 ⟨rfl, e4⟩
      refine ⟨_, rfl, bsT rfl ?_⟩
      refine (ok_kI3 1 (by omega) g4).mono ?_
      rintro _ g5 ⟨rfl, e5⟩
      obtain ⟨es, m1, m2, m3, _⟩ := (mp.ext (e4.trans e5)).is
      refine ⟨_, rfl, es, m1, m2, true, by rw [m3, lup_setOf (has_mem hk1)]; rfl, bsT rfl (bs (fun q => inoq g5 (e4.trans e5)) fun q => ?_)⟩
      have q : (find V.shown s).2.name ≠ E0 := of_decide_eq_false q
      refine (ok_kE3 _ tok.dir _ tok.name g5).mono ?_
      rintro _ g6 ⟨rfl, e6⟩
      obtain ⟨es, m1, m2, m3, _⟩ := (mp.ext ((e4.trans e5).trans e6)).is
      refine ⟨_, rfl, es, m1, m2, true, ?_, bsT rfl (inoq g6 ((e4.trans e5).trans e6))⟩
      rw [m3, lup_setOf (has_mem (t2 q))]; rfl

end Go.Proofs.YtkhfofnglkekoaaDoor
