/- Own library, part C: bytes and numbers as bytes. Conditions: none. -/
import Derived.Test.YtkhfofnglkekoaaDoorLbT
namespace Go.Proofs.YtkhfofnglkekoaaDoor

theorem bs {b : Bool} {F G : Prop} (t : b = true → F) (f : b = false → G) : bsplit b F G := by
  cases b
  · exact f rfl
  · exact t rfl
theorem bsT {b : Bool} {F G : Prop} (e : b = true) (t : F) : bsplit b F G := by subst e; exact t
theorem bsF {b : Bool} {F G : Prop} (e : b = false) (f : G) : bsplit b F G := by subst e; exact f

theorem pS {a : Addr} {F : Addr → Prop} (H : F a) : ptrM (some a) F := H

/-- Bytes as cells. -/
def bv (s : List UInt8) : List Value := s.map fun b => .int .u8 b.toNat
theorem bv_len (s : List UInt8) : (bv s).length = s.length := by simp [bv]
theorem bv_app (s t : List UInt8) : bv (s ++ t) = bv s ++ bv t := by simp [bv]
theorem bv_get (s : List UInt8) (i : Nat) : (bv s)[i]? = (s[i]?).map fun b => .int .u8 b.toNat := by simp [bv]
theorem bv_inj {s t : List UInt8} (h : bv s = bv t) : s = t := by
  unfold bv at h
  induction s generalizing t with
  | nil => cases t with
    | nil => rfl
    | cons b t => simp at h
  | cons a s ih => cases t with
    | nil => simp at h
    | cons b t =>
      simp only [List.map_cons, List.cons.injEq, Value.int.injEq, true_and] at h
      have : a = b := UInt8.toNat_inj.1 (by omega)
      rw [ih h.2, this]
theorem bv_leaf (s : List UInt8) : (bv s).all leafB = true := by simp [bv, leafB]
theorem bv_zero (n : Nat) : repl n [Value.int .u8 0] = bv (List.replicate n 0) := by
  induction n with
  | zero => rfl
  | succ n ih => rw [repl, ih]; rfl

def bOf (s : List UInt8) : ByteArray := ⟨s.toArray⟩
theorem bOf_list (s : List UInt8) : (bOf s).data.toList = s := by simp [bOf]
theorem bOf_size (s : List UInt8) : (bOf s).size = s.length := by simp [bOf, ByteArray.size]
theorem bOf_self (s : ByteArray) : bOf s.data.toList = s := bx (by rw [bOf_list])
theorem size_list (s : ByteArray) : s.size = s.data.toList.length := rfl
theorem E0_list {s : ByteArray} : s = ⟨#[]⟩ ↔ s.data.toList = [] := by
  constructor
  · rintro rfl; rfl
  · intro h; exact bx (by rw [h])

/-- A byte slice. -/
def BSl (T : Nat) (h : Hp) (a : Option Addr) (l c : Nat) (s : List UInt8) : Prop := Sl h T 1 a l c (bv s)

theorem BSl.len {T : Nat} {h : Hp} {a : Option Addr} {l c : Nat} {s : List UInt8} (x : BSl T h a l c s) : s.length = l := by
  have := x.1
  rw [bv_len] at this
  omega
theorem BSl.bytes {T : Nat} {h : Hp} {a : Option Addr} {l c : Nat} {s : List UInt8} (x : BSl T h a l c s) : Bytes h a l (bOf s) := by
  obtain ⟨h1, h2, h3⟩ := x
  rw [bv_len] at h1
  refine ⟨by rw [bOf_size]; omega, ?_⟩
  rcases h3 with h3 | ⟨b, o, cs, fr, rfl, e2, e3⟩
  · exact .inl (by omega)
  · refine .inr ⟨_, rfl, rfl, cs, T, fr, e2, fun i hi => ?_⟩
    rw [bOf_list] at hi ⊢
    exact e3 i hi
theorem BSl.get {T : Nat} {h : Hp} {a : Option Addr} {l c : Nat} {s : List UInt8} (x : BSl T h a l c s) {i : Nat} (hi : i < s.length) : ∃ p, a = some p ∧ At h (p.add (i * 1)) [.int .u8 s[i].toNat] := by
  have hl := x.len
  obtain ⟨p, rfl, hp⟩ := Sl.at x (i := i) (by omega) (by omega)
  refine ⟨p, rfl, ?_⟩
  have : (List.take 1 (List.drop (i * 1) (bv s))) = [.int .u8 s[i].toNat] := by
    rw [Nat.mul_one, List.drop_eq_getElem_cons (by rw [bv_len]; exact hi)]
    simp [bv]
  rw [this] at hp
  exact hp

/-! Numbers as bytes, the greatest part first. -/
def be : Nat → Nat → List UInt8
  | 0, _ => []
  | n + 1, x => UInt8.ofNat (x / 2 ^ (8 * n)) :: be n x
theorem be_len : ∀ n x, (be n x).length = n
  | 0, _ => rfl
  | n + 1, x => by simp [be, be_len n x]
def unb (s : List UInt8) : Nat := s.foldl (fun a b => a * 256 + b.toNat) 0

theorem unb_app (s t : List UInt8) : unb (s ++ t) = unb s * 256 ^ t.length + unb t := by
  unfold unb
  rw [List.foldl_append]
  generalize s.foldl (fun a b => a * 256 + b.toNat) 0 = a
  have : ∀ (t : List UInt8) (a : Nat), t.foldl (fun a b => a * 256 + b.toNat) a = a * 256 ^ t.length + t.foldl (fun a b => a * 256 + b.toNat) 0 := by
    intro t
    induction t with
    | nil => intro a; simp
    | cons b t ih =>
      intro a
      simp only [List.foldl_cons, List.length_cons]
      rw [ih (a * 256 + b.toNat), ih (0 * 256 + b.toNat), Nat.pow_succ]
      rw [Nat.add_mul, Nat.add_mul, Nat.mul_assoc a 256, Nat.mul_comm 256 (256 ^ t.length)]
      omega
  exact this t a
theorem unb_lt (s : List UInt8) : unb s < 256 ^ s.length := by
  have : ∀ (n : Nat) (s : List UInt8), s.length = n → unb s < 256 ^ n := by
    intro n
    induction n with
    | zero => intro s h; have := List.eq_nil_of_length_eq_zero h; subst this; simp [unb]
    | succ n ih =>
      intro s h
      match s, h with
      | b :: r, h =>
        have := unb_app [b] r
        rw [List.singleton_append] at this
        rw [this]
        have h1 := ih r (by simpa using h)
        have h2 : unb [b] < 256 := by simp [unb]; exact b.toNat_lt
        have h3 : r.length = n := by simpa using h
        rw [h3, Nat.pow_succ]
        have : unb [b] * 256 ^ n + 256 ^ n ≤ 256 ^ n * 256 := by
          have : (unb [b] + 1) * 256 ^ n ≤ 256 * 256 ^ n := Nat.mul_le_mul_right _ h2
          rw [Nat.add_mul, Nat.one_mul] at this
          rw [Nat.mul_comm (256 ^ n) 256]; exact this
        omega
  exact this _ s rfl
theorem unb_be : ∀ (n x : Nat), unb (be n x) = x % 256 ^ n
  | 0, x => by simp [be, unb, Nat.mod_one]
  | n + 1, x => by
    have h := unb_app [UInt8.ofNat (x / 2 ^ (8 * n))] (be n x)
    rw [List.singleton_append] at h
    rw [be, h, be_len, unb_be n x]
    have e : unb [UInt8.ofNat (x / 2 ^ (8 * n))] = x / 256 ^ n % 256 := by
      simp [unb, Nat.pow_mul]
    rw [e, Nat.pow_succ, Nat.mod_mul]
    rw [Nat.mul_comm (256 ^ n), Nat.add_comm]
theorem be_inj {n x y : Nat} (hx : x < 256 ^ n) (hy : y < 256 ^ n) (h : be n x = be n y) : x = y := by
  have := congrArg unb h
  rw [unb_be, unb_be, Nat.mod_eq_of_lt hx, Nat.mod_eq_of_lt hy] at this
  exact this
theorem be_unb : ∀ (s : List UInt8), be s.length (unb s) = s := by
  have : ∀ (n : Nat) (s : List UInt8), s.length = n → ∀ a, be n (a * 256 ^ n + unb s) = s := by
    intro n
    induction n with
    | zero => intro s h a; have := List.eq_nil_of_length_eq_zero h; subst this; rfl
    | succ n ih =>
      intro s h a
      match s, h with
      | b :: r, h =>
        have h3 : r.length = n := by simpa using h
        have h4 := unb_app [b] r
        rw [List.singleton_append] at h4
        rw [h4, h3]
        have h5 : unb [b] = b.toNat := by simp [unb]
        rw [h5, be]
        have h6 := unb_lt r
        rw [h3] at h6
        have e : a * 256 ^ (n + 1) + (b.toNat * 256 ^ n + unb r) = (a * 256 + b.toNat) * 256 ^ n + unb r := by
          rw [Nat.pow_succ, Nat.add_mul, Nat.mul_assoc, Nat.mul_comm 256]; omega
        rw [e, ih r h3]
        congr 1
        rw [Nat.pow_mul]
        have : ((a * 256 + b.toNat) * 256 ^ n + unb r) / (2 ^ 8) ^ n = a * 256 + b.toNat := by
          rw [show (2 ^ 8 : Nat) = 256 by decide]
          rw [Nat.mul_comm, Nat.mul_add_div (Nat.pow_pos (by decide)), Nat.div_eq_of_lt h6, Nat.add_zero]
        rw [this]
        apply UInt8.toNat_inj.1
        simp
  intro s
  have := this s.length s rfl 0
  simpa using this

theorem wrap_u8 (n : Int) : IntKind.u8.wrap n = n % 256 := by
  simp [IntKind.wrap, IntKind.bits, IntKind.signed]
theorem wrap_u32 (n : Int) : IntKind.u32.wrap n = n % 4294967296 := by
  simp [IntKind.wrap, IntKind.bits, IntKind.signed]
theorem wrap_u64 (n : Int) : IntKind.u64.wrap n = n % 18446744073709551616 := by
  simp [IntKind.wrap, IntKind.bits, IntKind.signed]

/-! Writing into a block. -/
theorem hst_at {h : Hp} {b o e : Nat} {cs : Array Value} {vs : List Value} {K : Hp → Prop} (hb : h b = some (.cells cs e (0, 0))) (hl : o + vs.length ≤ cs.size)
    (hk : K (h.set b (.cells (splice cs.toList o vs).toArray e (0, 0)))) : HSt h ⟨b, o, none⟩ vs K :=
  ⟨rfl, cs, e, (0, 0), hb, hl, fun i _ _ => by simp, hk⟩

theorem hst_fr {h : Hp} {b o e : Nat} {cs : Array Value} {fr : Nat × Nat} {vs : List Value} {K : Hp → Prop} (hb : h b = some (.cells cs e fr)) (hl : o + vs.length ≤ cs.size) (hf : o + vs.length ≤ fr.1)
    (hk : K (h.set b (.cells (splice cs.toList o vs).toArray e fr))) : HSt h ⟨b, o, none⟩ vs K :=
  ⟨rfl, cs, e, fr, hb, hl, fun i _ h2 h3 => by have h2 : i < o + vs.length := h2; omega, hk⟩

theorem at_mid {h : Hp} {b e : Nat} {fr : Nat × Nat} {l r : List Value} {v : Value} (hb : h b = some (.cells (l ++ v :: r).toArray e fr)) {n : Nat} (hn : n = l.length) : At h ⟨b, n, none⟩ [v] := by
  subst hn
  refine ⟨rfl, _, e, fr, hb, fun i hi => ?_⟩
  have : i = 0 := by simpa using hi
  subst this
  simp

theorem splice_mid (a c : List Value) (z v : Value) : splice (a ++ z :: c) a.length [v] = a ++ v :: c := by
  unfold splice
  simp

theorem BSl.fresh {T : Nat} {h : Hp} {a : Nat} {s : List UInt8} {fr : Nat × Nat} {n : Nat} (hn : s.length = n) : BSl T (h.set a (.cells (bv s).toArray T fr)) (some ⟨a, 0, none⟩) n n s :=
  ⟨by rw [bv_len]; omega, Nat.le_refl _, .inr ⟨a, 0, _, fr, rfl, Hp.set_same _ _ _, fun i _ => by rw [List.getElem?_toArray, Nat.zero_add]⟩⟩

theorem BSl.ext {T : Nat} {h h' : Hp} {a : Option Addr} {l c : Nat} {s : List UInt8} (e : Ext h h') (x : BSl T h a l c s) : BSl T h' a l c s := Sl.ext e x
theorem BSl.ke {ts : List Nat} {T : Nat} {h h' : Hp} {a : Option Addr} {l c : Nat} {s : List UInt8} (e : Ke ts h h') (m : memN T ts = false) (x : BSl T h a l c s) : BSl T h' a l c s := Sl.ke e m x

/-- The bytes of a text, as it is turned into a slice. -/
theorem BSl.text {T : Nat} {h : Hp} {s : ByteArray} {cap : Nat} (hc : s.size ≤ cap) {b : Nat} (hb : h b = some (.cells ((s.data.toList.map fun b => Value.int .u8 b.toNat) ++ List.replicate (cap - s.size) (Value.int .u8 0)).toArray T (cap, cap + 1))) :
    BSl T h (some ⟨b, 0, none⟩) s.size cap s.data.toList :=
  ⟨by rw [bv_len, size_list]; omega, hc, .inr ⟨b, 0, _, _, rfl, hb, fun i hi => by
    rw [List.getElem?_toArray, Nat.zero_add, List.getElem?_append_left (by simpa [bv] using hi)]; rfl⟩⟩

theorem bytes_eq {h : Hp} {a : Option Addr} {l : Nat} {s t : ByteArray} (h1 : Bytes h a l s) (h2 : Bytes h a l t) : s = t := by
  obtain ⟨l1, h1⟩ := h1
  obtain ⟨l2, h2⟩ := h2
  apply bx
  rcases h1 with h1 | ⟨p, rfl, h1⟩
  · have e1 : s.data.toList = [] := List.eq_nil_of_length_eq_zero (by rw [← size_list]; omega)
    have e2 : t.data.toList = [] := List.eq_nil_of_length_eq_zero (by rw [← size_list]; omega)
    rw [e1, e2]
  · rcases h2 with h2 | ⟨q, hq, h2⟩
    · have e1 : s.data.toList = [] := List.eq_nil_of_length_eq_zero (by rw [← size_list]; omega)
      have e2 : t.data.toList = [] := List.eq_nil_of_length_eq_zero (by rw [← size_list]; omega)
      rw [e1, e2]
    · cases hq
      have := At.eq (by simp only [List.length_map, ← size_list]; omega) h1 h2
      exact bv_inj this

/-! The first text behind all that begin so. -/
def bumpF : List UInt8 → Option (List UInt8)
  | [] => none
  | c :: r => match bumpF r with
    | some r' => some (c :: r')
    | none => if c = 255 then none else some [c + 1]

theorem bumpF_rep : ∀ k, bumpF (List.replicate k 255) = none
  | 0 => rfl
  | k + 1 => by rw [List.replicate_succ, bumpF, bumpF_rep k]; simp
theorem bumpF_mid : ∀ (q : List UInt8) (b : UInt8) (k : Nat), b ≠ 255 → bumpF (q ++ b :: List.replicate k 255) = some (q ++ [b + 1])
  | [], b, k, h => by rw [List.nil_append, bumpF, bumpF_rep k]; simp [h]
  | c :: q, b, k, h => by rw [List.cons_append, bumpF, bumpF_mid q b k h]; rfl

theorem bl_cons (a b : UInt8) (x y : List UInt8) : Op.bytesLess (a :: x) (b :: y) = (decide (a < b) || (a == b && Op.bytesLess x y)) := rfl

theorem bump_none : ∀ (p k : List UInt8), bumpF p = none → (Op.bytesLess k p = false ↔ ∃ t, k = p ++ t)
  | [], k, _ => by cases k <;> simp [Op.bytesLess]
  | c :: r, k, h => by
    rw [bumpF] at h
    cases hr : bumpF r with
    | some r' => rw [hr] at h; cases h
    | none =>
      rw [hr] at h
      by_cases hc : c = 255
      · subst hc
        cases k with
        | nil => simp [Op.bytesLess]
        | cons a k =>
          have ih := bump_none r k hr
          rw [bl_cons]
          have ha : ¬ a < 255 ↔ a = 255 := by
            constructor
            · intro h
              apply UInt8.toNat_inj.1
              have h1 : ¬ a.toNat < 255 := h
              have := a.toNat_lt
              have h2 : (255 : UInt8).toNat = 255 := rfl
              omega
            · rintro rfl; decide
          by_cases e : a = 255
          · subst e
            simp [ih]
          · have : a < 255 := by
              apply Classical.byContradiction
              intro hn
              exact e (ha.1 hn)
            simp [this, e]
      · simp [hc] at h

theorem bump_some : ∀ (p p' k : List UInt8), bumpF p = some p' → ((Op.bytesLess k p = false ∧ Op.bytesLess k p' = true) ↔ ∃ t, k = p ++ t)
  | [], _, _, h => by cases h
  | c :: r, p', k, h => by
    rw [bumpF] at h
    cases hr : bumpF r with
    | some r' =>
      rw [hr] at h
      cases h
      cases k with
      | nil => simp [Op.bytesLess]
      | cons a k =>
        have ih := bump_some r r' k hr
        rw [bl_cons, bl_cons]
        by_cases e : a = c
        · subst e
          simp only [UInt8.lt_irrefl, decide_false, Bool.false_or, beq_self_eq_true, Bool.true_and, ih, List.cons_append, List.cons.injEq, true_and]
        · constructor
          · rintro ⟨h1, h2⟩
            simp [e] at h1 h2
            have : a.toNat < c.toNat := h2
            have := UInt8.le_iff_toNat_le.1 h1
            omega
          · rintro ⟨t, ht⟩
            simp only [List.cons_append, List.cons.injEq] at ht
            exact absurd ht.1 e
    | none =>
      rw [hr] at h
      by_cases hc : c = 255
      · simp [hc] at h
      · simp only [hc, if_false, Option.some.injEq] at h
        subst h
        cases k with
        | nil => simp [Op.bytesLess]
        | cons a k =>
          have ih := bump_none r k hr
          rw [bl_cons, bl_cons]
          have hlt : (c + 1).toNat = c.toNat + 1 := by
            have := c.toNat_lt
            have h1 : c.toNat ≠ 255 := fun h => hc (UInt8.toNat_inj.1 h)
            rw [UInt8.toNat_add]
            have h2 : (1 : UInt8).toNat = 1 := rfl
            rw [h2]; omega
          have hnil : Op.bytesLess k [] = false := by cases k <;> rfl
          by_cases e : a = c
          · subst e
            have h3 : a < a + 1 := by
              show a.toNat < (a + 1).toNat
              omega
            simp only [UInt8.lt_irrefl, decide_false, Bool.false_or, beq_self_eq_true, Bool.true_and, List.cons_append, List.cons.injEq, true_and, h3, decide_true, Bool.true_or, and_true]
            exact ih
          · constructor
            · rintro ⟨h1, h2⟩
              simp [e, hnil] at h1 h2
              have h3 : a.toNat < (c + 1).toNat := h2
              have h4 := UInt8.le_iff_toNat_le.1 h1
              exfalso
              apply e
              apply UInt8.toNat_inj.1
              omega
            · rintro ⟨t, ht⟩
              simp only [List.cons_append, List.cons.injEq] at ht
              exact absurd ht.1 e

end Go.Proofs.YtkhfofnglkekoaaDoor
