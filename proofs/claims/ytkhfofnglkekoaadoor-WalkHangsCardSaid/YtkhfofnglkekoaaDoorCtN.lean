/- Contracts, part N: names, and what of Go's library they lean on. Conditions: none. -/
import Derived.Test.YtkhfofnglkekoaaDoorLbS
import Derived.Test.YtkhfofnglkekoaaDoorVcFt
namespace Go.Proofs.YtkhfofnglkekoaaDoor

theorem ok_Name (s : ByteArray) (h : Hp) (hs : s.size < 1000000000) : FnH Tryd.prog N_keys_Name #[.string s] h fun r h' => r = .bool (nameOk s.data.toList) ∧ Ext h h' := by
  refine F_keys_Name.calls s h _ ?_
  unfold F_keys_Name
  intro b hb
  refine ⟨fun m g => ∃ p, p ≤ s.size ∧ m + p = s.size ∧ g = h.set b (.stringIter s p) ∧ ∀ i, i < p → byteN s i ≠ 0 ∧ byteN s i ≠ 47, ⟨s.size, 0, by omega, by omega, rfl, fun i hi => by omega⟩, ?_⟩
  rintro m g ⟨p, hp, hm, rfl, hall⟩
  have e1 : ∀ q, Ext h (h.set b (.stringIter s q)) := fun q => Ext.new hb
  -- a byte that may not be
  have bad : ∀ i, i < s.size → (byteN s i = 0 ∨ byteN s i = 47) → nameOk s.data.toList = false := by
    intro i hi hbad
    have hi' : i < s.data.toList.length := hi
    unfold nameOk
    rw [Bool.and_eq_false_iff]
    left
    rw [List.all_eq_false]
    refine ⟨s.data.toList[i], List.getElem_mem hi', ?_⟩
    have : byteN s i = s.data.toList[i].toNat := by unfold byteN; rw [List.getD_eq_getElem?_getD, List.getElem?_eq_getElem hi', Option.getD_some]
    rw [this] at hbad
    rcases hbad with hbad | hbad
    · have : s.data.toList[i] = 0 := UInt8.toNat_inj.1 hbad
      rw [this]; decide
    · have : s.data.toList[i] = 47 := UInt8.toNat_inj.1 hbad
      rw [this]; decide
  refine ⟨s, p, Hp.set_same _ _ _, fun hlt => ?_, fun hnl => ?_⟩
  · rw [set_set]
    by_cases hlow : byteN s p < 128
    · rw [dec_low hlt hlow]
      refine bs (fun c => ?_) fun c => bs (fun d => ?_) fun d => ?_
      · have c : byteN s p = 0 := by
          have : ((byteN s p : Nat) : Int) = 0 := by simpa using c
          omega
        exact ⟨by rw [bad p hlt (.inl c)], e1 _⟩
      · have d : byteN s p = 47 := by
          have : ((byteN s p : Nat) : Int) = 47 := by simpa using d
          omega
        exact ⟨by rw [bad p hlt (.inr d)], e1 _⟩
      · refine ⟨m - 1, by omega, p + 1, by omega, by omega, rfl, fun i hi => ?_⟩
        rcases Nat.lt_or_ge i p with h1 | h1
        · exact hall i h1
        · have : i = p := by omega
          subst this
          exact ⟨fun e => by simp [e] at c, fun e => by simp [e] at d⟩
    · obtain ⟨h1, h2, h3⟩ := dec_high hlt hlow
      generalize Utf8.decode s p = dd at h1 h2 h3
      obtain ⟨c9, w⟩ := dd
      have h1 : 128 ≤ c9 := h1
      have h2 : 1 ≤ w := h2
      have hw : p + w ≤ s.size := by
        rcases Nat.eq_or_lt_of_le h2 with e | e
        · omega
        · have := (h3 (w - 1) (by omega) (show w - 1 < w by omega)).1
          omega
      refine bsF (by rw [beq_eq_false_iff_ne]; show ((c9 : Nat) : Int) ≠ 0; omega) (bsF (by rw [beq_eq_false_iff_ne]; show ((c9 : Nat) : Int) ≠ 47; omega) ⟨m - w, by omega, p + w, hw, by omega, rfl, fun i hi => ?_⟩)
      rcases Nat.lt_or_ge i p with h4 | h4
      · exact hall i h4
      · rcases Nat.eq_or_lt_of_le h4 with h5 | h5
        · subst h5; exact ⟨by omega, by omega⟩
        · have := (h3 (i - p) (by omega) (show i - p < w by omega)).2
          have e : p + (i - p) = i := by omega
          rw [e] at this
          exact ⟨by omega, by omega⟩
  · have hps : p = s.size := by omega
    subst hps
    have hgood : s.data.toList.all (fun b => !(b == 0) && !(b == 47)) = true := by
      rw [List.all_eq_true]
      intro x hx
      obtain ⟨i, hi, rfl⟩ := List.getElem_of_mem hx
      have := hall i hi
      have e : byteN s i = s.data.toList[i].toNat := by unfold byteN; rw [List.getD_eq_getElem?_getD, List.getElem?_eq_getElem hi, Option.getD_some]
      rw [e] at this
      simp only [Bool.and_eq_true, Bool.not_eq_true', beq_eq_false_iff_ne]
      exact ⟨fun h => this.1 (by rw [h]; rfl), fun h => this.2 (by rw [h]; rfl)⟩
    have eq : ∀ l : List UInt8, decide (s = bOf l) = decide (s.data.toList = l) := by
      intro l
      refine decide_eq_decide.2 ⟨fun h => by rw [h, bOf_list], fun h => by rw [← h, bOf_self]⟩
    have n0 := eq []
    have n1 := eq [46]
    have n2 := eq [46, 46]
    have key : nameOk s.data.toList = (!decide (s = E0) && (decide ((s.size : Int) ≤ 32) && (!decide (s = ByteArray.mk #[46]) && !decide (s = ByteArray.mk #[46, 46])))) := by
      unfold nameOk
      rw [hgood, Bool.true_and]
      have e0 : decide (s = E0) = decide (s.data.toList = []) := n0
      have e1 : decide (s = ByteArray.mk #[46]) = decide (s.data.toList = [46]) := n1
      have e2 : decide (s = ByteArray.mk #[46, 46]) = decide (s.data.toList = [46, 46]) := n2
      rw [e0, e1, e2]
      congr 2
      exact decide_eq_decide.2 (by rw [size_list]; omega)
    rw [key]
    refine bs (fun c => bs (fun d => bs (fun e => ?_) fun e => ?_) fun d => ?_) fun c => ?_
    · rw [c, d, e]; exact ⟨by simp, e1 _⟩
    · rw [c, d, e]; exact ⟨by simp, e1 _⟩
    · rw [c, d]; exact ⟨by simp, e1 _⟩
    · rw [c]; exact ⟨by simp, e1 _⟩

theorem ok_may1 (s : ByteArray) (h : Hp) (hs : s.size < 1000000000) : FnH Tryd.prog N_names_may_1 #[.string s] h fun r h' => r = .bool (!nameOk s.data.toList) ∧ Ext h h' := by
  refine F_names_may_1.calls s h _ ?_
  unfold F_names_may_1
  refine (ok_Name s h hs).mono ?_
  rintro _ h' ⟨rfl, e⟩
  exact ⟨_, rfl, rfl, e⟩

/-- A slice of texts. -/
def SSl (h : Hp) (a : Option Addr) (l c : Nat) (xs : List ByteArray) : Prop := xs.length = l ∧ Sl h T_string 1 a l c (sv xs)
theorem SSl.ext {h h' : Hp} {a : Option Addr} {l c : Nat} {xs : List ByteArray} (e : Ext h h') (s : SSl h a l c xs) : SSl h' a l c xs := ⟨s.1, s.2.ext e⟩
theorem SSl.at {h : Hp} {a : Option Addr} {l c : Nat} {xs : List ByteArray} (s : SSl h a l c xs) {i : Nat} (hi : i < xs.length) : ∃ p, a = some p ∧ At h (p.add (i * 1)) [.string xs[i]] := by
  have h2 : Sl h T_string 1 a l c (xs.flatMap fun s => [Value.string s]) := s.2
  exact h2.atF (xs := xs) (f := fun s => [Value.string s]) (fun _ => rfl) (by decide) (by have := s.1; omega) hi

theorem ok_may {h : Hp} {a : Option Addr} {l c : Nat} {xs : List ByteArray} (hs : SSl h a l c xs) (hl : l < 1000000000) (hx : ∀ x ∈ xs, x.size < 1000000000) :
    FnH Tryd.prog N_names_may #[.slice a l c] h fun r h' => r = .bool (decide (xs.length ≤ 16) && xs.all fun x => nameOk x.data.toList) ∧ Ext h h' := by
  refine F_names_may.calls a l c h _ ?_
  unfold F_names_may
  have hlen := hs.1
  refine bs (fun ct => ?_) fun cf => ?_
  · have ct : l ≤ 16 := by have := of_decide_eq_true ct; omega
    have idx : FnH Tryd.prog N_slices_IndexFunc_string_string #[.slice a l c, .func (.func N_names_may_1) #[] #[]] h fun r h' => ∃ n : Int, r = .int .i64 n ∧ Ext h h' ∧ ((0 ≤ n ∧ xs.all (fun x => nameOk x.data.toList) = false) ∨ (n = -1 ∧ xs.all (fun x => nameOk x.data.toList) = true)) := by
      refine F_slices_IndexFunc_string_string.calls a l c _ _ _ h _ ?_
      unfold F_slices_IndexFunc_string_string
      refine ⟨fun m i g => ∃ k : Nat, i = k ∧ m + k = l ∧ Ext h g ∧ ∀ j (hj : j < xs.length), j < k → nameOk xs[j].data.toList = true, ⟨l, 0, rfl, rfl, Ext.refl, fun _ _ h => by omega⟩, ?_⟩
      rintro m i g ⟨k, rfl, hk, hg, hall⟩
      refine bs (fun ht => ?_) fun hf => ?_
      · have hkl : k < l := by simpa using ht
        have hkx : k < xs.length := by omega
        obtain ⟨p, rfl, hp⟩ := (hs.ext hg).at hkx
        refine ⟨by omega, by omega, pS ⟨_, hp, ?_⟩⟩
        show FnH Tryd.prog N_names_may_1 _ _ _
        refine (ok_may1 xs[k] g (hx _ (List.getElem_mem hkx))).mono ?_
        rintro _ h' ⟨rfl, e⟩
        refine ⟨_, rfl, bs (fun cb => ?_) fun cb => ?_⟩
        · refine ⟨_, rfl, hg.trans e, .inl ⟨by omega, ?_⟩⟩
          rw [List.all_eq_false]
          exact ⟨xs[k], List.getElem_mem hkx, by simpa using cb⟩
        · refine ⟨by unfold I64; omega, m - 1, by omega, k + 1, by omega, by omega, hg.trans e, fun j hj hj2 => ?_⟩
          rcases Nat.lt_or_ge j k with h1 | h1
          · exact hall j hj h1
          · have : j = k := by omega
            subst this; simpa using cb
      · have hkl : k = l := by
          have : ¬ (k : Int) < l := by simpa using hf
          omega
        refine ⟨_, rfl, hg, .inr ⟨rfl, ?_⟩⟩
        rw [List.all_eq_true]
        intro x hx
        obtain ⟨j, hj, rfl⟩ := List.getElem_of_mem hx
        exact hall j hj (by omega)
    have cf : FnH Tryd.prog N_slices_ContainsFunc_string_string #[.slice a l c, .func (.func N_names_may_1) #[] #[]] h fun r h' => r = .bool (!(xs.all fun x => nameOk x.data.toList)) ∧ Ext h h' := by
      refine F_slices_ContainsFunc_string_string.calls a l c _ _ _ h _ ?_
      unfold F_slices_ContainsFunc_string_string
      refine idx.mono ?_
      rintro _ h' ⟨n, rfl, e, hn⟩
      refine ⟨_, rfl, ?_, e⟩
      rcases hn with ⟨h1, h2⟩ | ⟨rfl, h2⟩
      · rw [h2]; simp [h1]
      · rw [h2]; rfl
    refine cf.mono ?_
    rintro _ h' ⟨rfl, e⟩
    refine ⟨_, rfl, ?_, e⟩
    rw [Bool.not_not, decide_eq_true (by omega), Bool.true_and]
  · have cf : ¬ l ≤ 16 := by have := of_decide_eq_false cf; omega
    refine ⟨?_, Ext.refl⟩
    rw [decide_eq_false (by omega), Bool.false_and]

theorem ok_IndexSl (s : ByteArray) (h : Hp) : FnH Tryd.prog N_strings_Index #[.string s, .string (ByteArray.mk #[47])] h fun r h' => r = .int .i64 (Go.Lib.indexByte s.data.toList 47) ∧ h = h' := by
  refine F_strings_Index.calls _ _ h _ ?_
  unfold F_strings_Index
  have : FnH Tryd.prog N_internal_stringslite_Index #[.string s, .string (ByteArray.mk #[47])] h fun r h' => r = .int .i64 (Go.Lib.indexByte s.data.toList 47) ∧ h = h' := by
    refine F_internal_stringslite_Index.calls _ _ h _ ?_
    unfold F_internal_stringslite_Index
    refine bsF rfl (bs (fun c => ?_) fun _ => bsT rfl ⟨by decide, by decide, ?_⟩)
    · have c := of_decide_eq_true c
      subst c
      exact ⟨rfl, rfl⟩
    · refine FnH.mono (F_internal_stringslite_IndexByte.calls s (byteAt (ByteArray.mk #[47]) 0) h (fun r h' => r = .int .i64 (Go.Lib.indexByte s.data.toList 47) ∧ h = h') ?_) ?_
      · unfold F_internal_stringslite_IndexByte
        exact ⟨by rw [← idxB_eq]; rfl, rfl⟩
      · rintro _ h' ⟨rfl, rfl⟩
        exact ⟨_, rfl, rfl, rfl⟩
  refine this.mono ?_
  rintro _ h' ⟨rfl, rfl⟩
  exact ⟨_, rfl, rfl, rfl⟩

theorem sv_rep (n : Nat) : repl n [Value.string E0] = sv (List.replicate n E0) := by
  induction n with
  | zero => rfl
  | succ n ih => rw [repl, ih]; rfl

theorem ok_SplitSl (s : ByteArray) (hs : s.size < 1000000000) (h : Hp) : FnH Tryd.prog N_strings_Split #[.string s, .string (ByteArray.mk #[47])] h fun r h' =>
    ∃ a l c xs, r = .slice a l c ∧ Ext h h' ∧ SSl h' a l c xs ∧ xs.map (fun x => x.data.toList) = splitS s.data.toList := by
  refine F_strings_Split.calls _ _ h _ ?_
  unfold F_strings_Split
  have gen : FnH Tryd.prog N_strings_genSplit #[.string s, .string (ByteArray.mk #[47]), .int .i64 0, .int .i64 (-1)] h fun r h' =>
      ∃ a l c xs, r = .slice a l c ∧ Ext h h' ∧ SSl h' a l c xs ∧ xs.map (fun x => x.data.toList) = splitS s.data.toList := by
    refine F_strings_genSplit.calls _ _ _ _ h _ ?_
    unfold F_strings_genSplit
    refine bsF rfl (bsF rfl fun J hJ => bsT rfl ?_)
    have cnt : FnH Tryd.prog N_strings_Count #[.string s, .string (ByteArray.mk #[47])] h fun r h' => r = .int .i64 (s.data.toList.count 47 : Nat) ∧ h = h' := by
      refine F_strings_Count.calls _ _ h _ ?_
      unfold F_strings_Count
      exact bsF rfl (bsT rfl ⟨by decide, by decide, by rw [← cntB_eq]; rfl, rfl⟩)
    refine cnt.mono ?_
    rintro _ _ ⟨rfl, rfl⟩
    have hN := splitS_len s.data.toList
    have hcl : s.data.toList.count 47 ≤ s.size := by rw [size_list]; exact List.count_le_length
    refine ⟨_, rfl, by unfold I64; omega, hJ _ _ ?_⟩
    have him : imin (((s.data.toList.count 47 : Nat) : Int) + 1) ((s.size : Int) + 1) = ((s.data.toList.count 47 + 1 : Nat) : Int) := by
      unfold imin; split <;> omega
    rw [him]
    generalize hNN : s.data.toList.count 47 + 1 = N at *
    rw [Int.toNat_natCast]
    refine ⟨by unfold I64; omega, by omega, by omega, by omega, by decide, fun b hb => ⟨by unfold I64; omega, ?_⟩⟩
    have set_step : ∀ (xs : List ByteArray) (x : ByteArray) (n : Nat), splice (sv (xs ++ List.replicate (n + 1) E0)) xs.length [.string x] = sv (xs ++ [x] ++ List.replicate n E0) := by
      intro xs x n
      have : sv (xs ++ List.replicate (n + 1) E0) = sv xs ++ Value.string E0 :: sv (List.replicate n E0) := by
        rw [sv_app, List.replicate_succ]; rfl
      rw [this, ← sv_len xs, splice_mid, sv_app, sv_app, List.append_assoc]; rfl
    intro J2 hJ2
    have fin : ∀ (xs : List ByteArray) (x : ByteArray), xs.length + 1 ≤ N → xs.map (fun x => x.data.toList) ++ [x.data.toList] = splitS s.data.toList →
        J2 x (xs.length : Nat) (h.set b (.cells (sv (xs ++ List.replicate (N - xs.length) E0)).toArray T_string (0, 0))) := by
      intro xs x hl hx
      refine hJ2 _ _ _ ⟨by omega, by omega, ?_⟩
      rw [add_at]
      refine hst_at (Hp.set_same _ _ _) (by simp [sv_len]; omega) ⟨by unfold I64; omega, by omega, by omega, by omega, ?_⟩
      rw [set_set, List.toList_toArray]
      have e : N - xs.length = (N - xs.length - 1) + 1 := by omega
      have e2 : 0 + Int.toNat (xs.length : Int) * 1 = xs.length := by omega
      rw [e, e2, set_step]
      refine ⟨_, _, _, xs ++ [x], rfl, Ext.new hb, ⟨by simp <;> omega, ?_⟩, by simpa using hx⟩
      have hl2 : Int.toNat ((xs.length : Int) + 1 - 0) = xs.length + 1 := by omega
      have hc2 : Int.toNat ((N : Int) - 0) = N := by omega
      rw [hl2, hc2]
      refine ⟨by rw [sv_len]; simp, hl, .inr ⟨b, 0, _, (0, 0), ?_, Hp.set_same _ _ _, fun i hi => ?_⟩⟩
      · unfold subSl
        split
        · rfl
        · simp [add_at]
      · rw [List.getElem?_toArray, Nat.zero_add, sv_app (xs ++ [x]), List.getElem?_append_left hi]
    refine ⟨fun m t i g => ∃ xs : List ByteArray, i = xs.length ∧ m + xs.length = N ∧ xs.length + 1 ≤ N ∧ g = h.set b (.cells (sv (xs ++ List.replicate (N - xs.length) E0)).toArray T_string (0, 0)) ∧
      xs.map (fun x => x.data.toList) ++ splitS t.data.toList = splitS s.data.toList ∧ t.size ≤ s.size, ⟨N, [], rfl, by simp, by simp <;> omega, by rw [sv_rep]; simp, by simp, Nat.le_refl _⟩, ?_⟩
    rintro m t i g ⟨xs, rfl, hm, hle, rfl, hsp, hts⟩
    have hlen := congrArg List.length hsp
    rw [List.length_append, List.length_map, hN, splitS_len] at hlen
    refine bs (fun c => ?_) fun c => ?_
    · have c : xs.length < N - 1 := by have := of_decide_eq_true c; omega
      refine (ok_IndexSl t _).mono ?_
      rintro _ _ ⟨rfl, rfl⟩
      refine ⟨_, rfl, ?_⟩
      rcases idx_spec 47 t.data.toList with ⟨q, r, hq, hnq, hi⟩ | ⟨hn, hi⟩
      · rw [hi]
        have htl : t.size = q.length + 1 + r.length := by rw [size_list, hq]; simp; omega
        refine bsF (by simp) ⟨by unfold I64; omega, by omega, by omega, by omega, by omega, by omega, ?_⟩
        rw [add_at]
        have e3 : Int.toNat ((q.length : Int) + 0) = q.length := by omega
        rw [e3, Int.toNat_zero]
        refine hst_at (Hp.set_same _ _ _) (by simp [sv_len]; omega) ⟨?_, ?_, ?_, by omega, by unfold I64; omega, m - 1, by omega, xs ++ [t.extract 0 q.length], by simp, by simp; omega, by simp; omega, ?_, ?_, ?_⟩
        · have : (ByteArray.mk #[47]).size = 1 := rfl
          rw [this]; unfold I64; omega
        · have : (ByteArray.mk #[47]).size = 1 := rfl
          rw [this]; omega
        · have : (ByteArray.mk #[47]).size = 1 := rfl
          rw [this]; omega
        · rw [set_set, List.toList_toArray]
          have e : N - xs.length = (N - xs.length - 1) + 1 := by omega
          have e2 : 0 + Int.toNat (xs.length : Int) * 1 = xs.length := by omega
          rw [e, e2, set_step]
          simp only [List.length_append, List.length_singleton]
          congr 5
        · have e1 : (ByteArray.mk #[47]).size = 1 := rfl
          have e4 : Int.toNat ((q.length : Int) + ((ByteArray.mk #[47]).size : Nat)) = q.length + 1 := by rw [e1]; omega
          have e5 : Int.toNat (t.size : Int) = t.data.toList.length := by rw [← size_list]; omega
          rw [e4, e5, List.map_append, List.map_singleton, ext_list, ext_list, List.take_length, hq]
          rw [hq, splitS_app hnq] at hsp
          rw [← hsp]
          simp
        · have e1 : (ByteArray.mk #[47]).size = 1 := rfl
          rw [size_list, ext_list, List.length_drop, List.length_take]
          have := size_list t
          omega
      · rw [hi]
        refine bsT rfl (fin xs t (by omega) ?_)
        rw [splitS_none hn] at hsp
        exact hsp
    · have c : ¬ xs.length < N - 1 := by
        have := of_decide_eq_false c
        omega
      refine fin xs t (by omega) ?_
      have h0 : t.data.toList.count 47 = 0 := by omega
      rw [splitS_none (List.count_eq_zero.1 h0)] at hsp
      exact hsp
  refine gen.mono ?_
  rintro _ h' ⟨a, l, c, xs, rfl, e, hs, hx⟩
  exact ⟨_, _, _, rfl, a, l, c, xs, rfl, e, hs, hx⟩

theorem ok_Split (p : ByteArray) (hp : p.size < 1000000000) (h : Hp) : FnH Tryd.prog N_names_Split #[.string p] h fun r h' =>
    ∃ a l c xs, r = .tuple #[.slice a l c, .int .i64 (pathNames p.data.toList).1] ∧ Ext h h' ∧ SSl h' a l c xs ∧ xs.map (fun x => x.data.toList) = (pathNames p.data.toList).2 := by
  refine F_names_Split.calls _ h _ ?_
  unfold F_names_Split
  have nil : ∀ n : Nat, n ≠ 0 ∨ True → pathNames p.data.toList = (n, []) → ∃ a l c xs, (Value.tuple #[.slice none 0 0, .int .i64 (n : Int)]) = .tuple #[.slice a l c, .int .i64 (pathNames p.data.toList).1] ∧ Ext h h ∧ SSl h a l c xs ∧ xs.map (fun x => x.data.toList) = (pathNames p.data.toList).2 := by
    intro n _ hn
    rw [hn]
    exact ⟨none, 0, 0, [], rfl, Ext.refl, ⟨rfl, Sl.nil⟩, rfl⟩
  have hpe : ∀ l : List UInt8, p = bOf l ↔ p.data.toList = l := fun l => ⟨fun h => by rw [h, bOf_list], fun h => by rw [← h, bOf_self]⟩
  refine bs (fun c => ?_) fun c => bs (fun d => ?_) fun d => ?_
  · have c := of_decide_eq_true c
    have : p.data.toList = [] := by rw [c]; rfl
    refine nil 17 (.inr trivial) ?_
    unfold pathNames
    rw [if_pos (.inl this)]
  · have d := of_decide_eq_true d
    refine nil 17 (.inr trivial) ?_
    unfold pathNames
    rw [if_pos (.inr (by rw [← size_list]; omega))]
  · have c := of_decide_eq_false c
    have d := of_decide_eq_false d
    have hne : p.data.toList ≠ [] := fun e => c ((hpe []).2 e)
    have h1 : ¬ (p.data.toList = [] ∨ p.data.toList.length > 255) := by
      rintro (h | h)
      · exact hne h
      · rw [← size_list] at h; omega
    obtain ⟨b0, rest, hcons⟩ : ∃ b0 rest, p.data.toList = b0 :: rest := by
      cases hx : p.data.toList with
      | nil => exact absurd hx hne
      | cons a b => exact ⟨a, b, rfl⟩
    have hsz : p.size = rest.length + 1 := by rw [size_list, hcons]; rfl
    have hb : byteAt p 0 = (b0.toNat : Int) := by unfold byteAt; rw [hcons]; rfl
    refine ⟨by omega, by omega, ?_⟩
    rw [hb]
    refine bs (fun e => ?_) fun e => ?_
    · have e : b0 ≠ 47 := by rintro rfl; simp at e
      refine nil 15 (.inr trivial) ?_
      unfold pathNames
      rw [if_neg h1, if_pos (by rw [hcons]; simp [e])]
    · have e : b0 = 47 := by
        have : (b0.toNat : Int) = 47 := by simpa using e
        exact UInt8.toNat_inj.1 (by have h47 : (47 : UInt8).toNat = 47 := rfl; omega)
      subst e
      have h2 : ¬ (p.data.toList.head? ≠ some 47) := by rw [hcons]; simp
      refine bs (fun f => ?_) fun f => ?_
      · have f := of_decide_eq_true f
        refine nil 0 (.inr trivial) ?_
        unfold pathNames
        rw [if_neg h1, if_neg h2, if_pos (by rw [f])]
      · have f := of_decide_eq_false f
        have h3 : ¬ (p.data.toList = [47]) := fun e => f ((hpe [47]).2 e)
        refine ⟨by omega, by omega, by omega, ?_⟩
        have e1 : Int.toNat (1 : Int) = 1 := rfl
        have e2 : (p.extract 1 (Int.toNat (p.size : Int))).data.toList = rest := by
          rw [ext_list, Int.toNat_natCast, size_list, List.take_length, hcons]; rfl
        rw [e1]
        refine (ok_SplitSl _ (by rw [size_list, e2]; omega) h).mono ?_
        rintro _ h1' ⟨a, l, c', xs, rfl, ex, hss, hxs⟩
        rw [e2] at hxs
        refine ⟨_, _, _, rfl, ?_⟩
        have hlen : l = (splitS rest).length := by rw [← hxs, List.length_map, hss.1]
        have hsl := splitS_len rest
        have hcl : rest.count 47 ≤ rest.length := List.count_le_length
        have small : ∀ x ∈ xs, x.size < 1000000000 := by
          intro x hx
          have hm : x.data.toList ∈ splitS rest := by rw [← hxs]; exact List.mem_map.2 ⟨x, hx, rfl⟩
          have : ∀ (s : List UInt8), ∀ y ∈ splitS s, y.length ≤ s.length := by
            intro s
            induction s with
            | nil => intro y hy; simp [splitS] at hy; simp [hy]
            | cons a s ih =>
              intro y hy
              unfold splitS at hy
              split at hy
              · rcases List.mem_cons.1 hy with rfl | hy
                · simp
                · have := ih y hy; simp <;> omega
              · split at hy
                · rename_i z t hz
                  rw [hz] at ih
                  rcases List.mem_cons.1 hy with rfl | hy
                  · have := ih z (by simp); simp <;> omega
                  · have := ih y (by simp [hy]); simp <;> omega
                · simp at hy; subst hy; simp <;> omega
          have := this rest _ hm
          rw [size_list]; omega
        refine (ok_may hss (by omega) small).mono ?_
        rintro _ h2' ⟨rfl, ex2⟩
        have hall : (xs.all fun x => nameOk x.data.toList) = (splitS rest).all nameOk := by
          rw [← hxs, List.all_map]; rfl
        have hlx : xs.length = (splitS rest).length := by rw [← hxs, List.length_map]
        rw [hall, hlx]
        have htail : p.data.toList.tail = rest := by rw [hcons]; rfl
        refine ⟨_, rfl, bs (fun g => ?_) fun g => ?_⟩
        · have e3 : pathNames p.data.toList = (17, []) := by
            unfold pathNames
            rw [if_neg h1, if_neg h2, if_neg h3, htail, if_neg]
            rintro ⟨q1, q2⟩
            rw [decide_eq_true q1, q2] at g
            cases g
          rw [e3]
          exact ⟨none, 0, 0, [], rfl, ex.trans ex2, ⟨rfl, Sl.nil⟩, rfl⟩
        · have e3 : pathNames p.data.toList = (0, splitS rest) := by
            unfold pathNames
            rw [if_neg h1, if_neg h2, if_neg h3, htail, if_pos]
            simp only [Bool.not_eq_false', Bool.and_eq_true, decide_eq_true_eq] at g
            exact g
          rw [e3]
          exact ⟨a, l, c', xs, rfl, ex.trans ex2, hss.ext ex2, hxs⟩

end Go.Proofs.YtkhfofnglkekoaaDoor
