/- Own library, part X: maps. Conditions: none. -/
import Derived.Test.YtkhfofnglkekoaaDoorLbW
namespace Go.Proofs.YtkhfofnglkekoaaDoor

abbrev Ml := List (Value × Value)
def lup (k : Value) : Ml → Option Value
  | [] => none
  | (a, b) :: r => cond (keyEq k a) (some b) (lup k r)
def mup (k v : Value) : Ml → Ml
  | [] => [(k, v)]
  | (a, b) :: r => cond (keyEq k a) ((k, v) :: r) ((a, b) :: mup k v r)

/-- A block that is a map with these entries. -/
def MpAt (h : Hp) (b : Nat) (kd : Kd) (L : Ml) : Prop :=
  ∃ (es : List MapEntry) (clk : Nat), h b = some (.map es.toArray clk) ∧ keysOf kd es ∧ es.map (fun e => (e.key, e.val)) = L

theorem MpAt.ext {h h' : Hp} {b : Nat} {kd : Kd} {L : Ml} (e : Ext h h') (m : MpAt h b kd L) : MpAt h' b kd L := by
  obtain ⟨es, clk, h1, h2⟩ := m
  exact ⟨es, clk, e _ _ h1, h2⟩
theorem MpAt.ke {ts : List Nat} {h h' : Hp} {b : Nat} {kd : Kd} {L : Ml} (e : Ke ts h h') (m : MpAt h b kd L) : MpAt h' b kd L := by
  obtain ⟨es, clk, h1, h2⟩ := m
  exact ⟨es, clk, e _ _ h1 rfl, h2⟩
theorem MpAt.strNil {h : Hp} {b n : Nat} (hb : h b = some (.map #[] n)) : MpAt h b .str [] := ⟨[], n, hb, (fun _ h => by cases h), rfl⟩
theorem MpAt.intNil {h : Hp} {b n : Nat} {i : IntKind} (hb : h b = some (.map #[] n)) : MpAt h b (.int i) [] := ⟨[], n, hb, (fun _ h => by cases h), rfl⟩

theorem mfind_map (k : Value) : ∀ es : List MapEntry, mfind k es = lup k (es.map fun e => (e.key, e.val))
  | [] => rfl
  | e :: r => by
    unfold mfind
    rw [List.map_cons, lup, mfind_map k r]

theorem mset_map (k v : Value) : ∀ es : List MapEntry, (mfind k es).isSome = true → (mset k v es).map (fun e => (e.key, e.val)) = mup k v (es.map fun e => (e.key, e.val))
  | [], h => by cases h
  | e :: r, h => by
    unfold mset
    rw [List.map_cons, mup]
    unfold mfind at h
    cases hk : keyEq k e.key with
    | true => simp [cond]
    | false =>
      rw [hk] at h
      simp only [cond, List.map_cons]
      rw [mset_map k v r h]
theorem mapp_map (k v : Value) (c : Nat) : ∀ es : List MapEntry, (mfind k es).isSome = false → (es ++ [MapEntry.mk k v c]).map (fun e => (e.key, e.val)) = mup k v (es.map fun e => (e.key, e.val))
  | [], h => rfl
  | e :: r, h => by
    rw [List.cons_append, List.map_cons, List.map_cons, mup]
    unfold mfind at h
    cases hk : keyEq k e.key with
    | true => rw [hk] at h; cases h
    | false =>
      rw [hk] at h
      simp only [cond]
      rw [mapp_map k v c r h]
theorem keysOf_app {kd : Kd} {a b : List MapEntry} (ha : keysOf kd a) (hb : keysOf kd b) : keysOf kd (a ++ b) := by
  cases kd with
  | int i => exact fun e he => (List.mem_append.1 he).elim (ha e) (hb e)
  | str => exact fun e he => (List.mem_append.1 he).elim (ha e) (hb e)
  | _ => exact ha
theorem keysOf_mset {kd : Kd} {k v : Value} (hk : ∀ c, keysOf kd [MapEntry.mk k v c]) : ∀ {es : List MapEntry}, keysOf kd es → keysOf kd (mset k v es)
  | [], h => h
  | e :: r, h => by
    cases kd with
    | int i =>
      have ht : keysOf (.int i) r := fun x hx => h x (List.mem_cons_of_mem _ hx)
      unfold mset
      cases keyEq k e.key with
      | true =>
        intro x hx
        rcases List.mem_cons.1 hx with rfl | hx
        · exact hk _ _ (List.mem_singleton.2 rfl)
        · exact ht x hx
      | false =>
        intro x hx
        rcases List.mem_cons.1 hx with rfl | hx
        · exact h _ (List.mem_cons_self ..)
        · exact keysOf_mset hk ht x hx
    | str =>
      have ht : keysOf .str r := fun x hx => h x (List.mem_cons_of_mem _ hx)
      unfold mset
      cases keyEq k e.key with
      | true =>
        intro x hx
        rcases List.mem_cons.1 hx with rfl | hx
        · exact hk _ _ (List.mem_singleton.2 rfl)
        · exact ht x hx
      | false =>
        intro x hx
        rcases List.mem_cons.1 hx with rfl | hx
        · exact h _ (List.mem_cons_self ..)
        · exact keysOf_mset hk ht x hx
    | _ => exact h.elim

/-- A map's entry is set. -/
theorem hmapI {h : Hp} {b : Nat} {kd : Kd} {L : Ml} {k v : Value} {K : Hp → Prop} (m : MpAt h b kd L) (hk : ∀ c, keysOf kd [MapEntry.mk k v c])
    (hK : ∀ o, MpAt (h.set b o) b kd (mup k v L) → K (h.set b o)) : HMap kd h (some b) k v K := by
  obtain ⟨es, clk, h1, h2, rfl⟩ := m
  refine ⟨b, es, clk, rfl, h1, h2, fun hf => ?_, fun hf => ?_⟩
  · exact hK _ ⟨_, clk, Hp.set_same _ _ _, keysOf_mset hk h2, mset_map k v es hf⟩
  · refine hK _ ⟨_, clk + 1, Hp.set_same _ _ _, keysOf_app h2 ?_, mapp_map k v clk es hf⟩
    cases kd with
    | int i => intro e he; have := List.mem_singleton.1 he; subst this; exact hk _ _ (List.mem_singleton.2 rfl)
    | str => intro e he; have := List.mem_singleton.1 he; subst this; exact hk _ _ (List.mem_singleton.2 rfl)
    | _ => exact (hk 0).elim

/-- What is looked up. -/
theorem MpAt.is {h : Hp} {b : Nat} {kd : Kd} {L : Ml} (m : MpAt h b kd L) : ∃ es, MapIs h (some b) es ∧ keysOf kd es ∧ (∀ k, mfind k es = lup k L) ∧ es.length = L.length := by
  obtain ⟨es, clk, h1, h2, rfl⟩ := m
  exact ⟨es, ⟨clk, h1⟩, h2, fun k => mfind_map k es, by simp⟩

theorem keyEq_str (a b : ByteArray) : keyEq (.string a) (.string b) = decide (a = b) := rfl
theorem keyEq_int (i j : IntKind) (a b : Int) : keyEq (.int i a) (.int j b) = decide (a = b) := by
  by_cases h : a = b <;> simp [keyEq, h]

theorem lup_mup_same {k v : Value} (hk : keyEq k k = true) : ∀ L : Ml, lup k (mup k v L) = some v
  | [] => by simp [mup, lup, hk]
  | (a, b) :: r => by
    unfold mup
    cases h : keyEq k a with
    | true => simp [lup, hk]
    | false => simp only [cond, lup, h]; exact lup_mup_same hk r
theorem lup_mup_ne {k k' v : Value} (hk : keyEq k' k = false) (hc : ∀ a, keyEq k a = true → keyEq k' a = false) : ∀ L : Ml, lup k' (mup k v L) = lup k' L
  | [] => by simp [mup, lup, hk]
  | (a, b) :: r => by
    unfold mup
    cases h : keyEq k a with
    | true => simp [lup, hk, hc a h]
    | false => simp only [cond, lup]; rw [lup_mup_ne hk hc r]

theorem lup_mup_str (s t : ByteArray) (v : Value) (L : Ml) : lup (.string s) (mup (.string t) v L) = if s = t then some v else lup (.string s) L := by
  by_cases h : s = t
  · subst h; rw [if_pos rfl, lup_mup_same (by simp [keyEq])]
  · rw [if_neg h]
    refine lup_mup_ne (k := .string t) (k' := .string s) (decide_eq_false h) (fun a ha => ?_) L
    cases a with
    | string x =>
      have : t = x := of_decide_eq_true ha
      subst this
      simp [keyEq, h]
    | _ => rfl
theorem lup_mup_int (i : IntKind) (s t : Int) (v : Value) (L : Ml) : lup (.int i s) (mup (.int i t) v L) = if s = t then some v else lup (.int i s) L := by
  by_cases h : s = t
  · subst h; rw [if_pos rfl, lup_mup_same (by simp [keyEq])]
  · rw [if_neg h]
    refine lup_mup_ne (k := .int i t) (k' := .int i s) (by rw [keyEq_int]; exact decide_eq_false h) (fun a ha => ?_) L
    cases a with
    | int j x =>
      have : t = x := by simpa [keyEq] using ha
      subst this
      simp [keyEq, h]
    | _ => rfl

/-- A set of texts. -/
def setOf : List ByteArray → Ml := fun xs => xs.foldl (fun L s => mup (.string s) (.bool true) L) []
theorem setOf_snoc (xs : List ByteArray) (s : ByteArray) : setOf (xs ++ [s]) = mup (.string s) (.bool true) (setOf xs) := by
  unfold setOf
  rw [List.foldl_append]; rfl
theorem foldl_lup (s : ByteArray) : ∀ (xs : List ByteArray) (L : Ml), (s ∈ xs → lup (.string s) (xs.foldl (fun L s => mup (.string s) (.bool true) L) L) = some (.bool true)) ∧ (¬ s ∈ xs → lup (.string s) (xs.foldl (fun L s => mup (.string s) (.bool true) L) L) = lup (.string s) L)
  | [], L => ⟨(fun h => by cases h), fun _ => rfl⟩
  | x :: xs, L => by
    rw [List.foldl_cons]
    obtain ⟨h1, h2⟩ := foldl_lup s xs (mup (.string x) (.bool true) L)
    refine ⟨fun h => ?_, fun h => ?_⟩
    · by_cases hx : s ∈ xs
      · exact h1 hx
      · have : s = x := (List.mem_cons.1 h).resolve_right hx
        rw [h2 hx, lup_mup_str, if_pos this]
    · rw [List.mem_cons, not_or] at h
      rw [h2 h.2, lup_mup_str, if_neg h.1]
theorem lup_setOf {s : ByteArray} {xs : List ByteArray} (h : s ∈ xs) : lup (.string s) (setOf xs) = some (.bool true) := (foldl_lup s xs []).1 h
theorem lup_setOf_not {s : ByteArray} {xs : List ByteArray} (h : ¬ s ∈ xs) : lup (.string s) (setOf xs) = none := (foldl_lup s xs []).2 h
theorem mup_ne (k v : Value) (L : Ml) : mup k v L ≠ [] := by
  cases L with
  | nil => simp [mup]
  | cons a r =>
    obtain ⟨x, y⟩ := a
    unfold mup
    cases keyEq k x <;> simp [cond]
theorem mup_len (k v : Value) (L : Ml) : (mup k v L).length ≤ L.length + 1 := by
  induction L with
  | nil => simp [mup]
  | cons a r ih =>
    obtain ⟨x, y⟩ := a
    unfold mup
    cases keyEq k x
    · simp only [cond, List.length_cons]; omega
    · simp [cond]

end Go.Proofs.YtkhfofnglkekoaaDoor
