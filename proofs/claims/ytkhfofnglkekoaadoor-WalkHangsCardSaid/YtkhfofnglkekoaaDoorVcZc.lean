/- Own verification-condition framework, part Zc: structs and arrays of plain cells are compared cell by cell. Conditions: none. -/
import Derived.Test.YtkhfofnglkekoaaDoorVcZb
namespace Go.Proofs.YtkhfofnglkekoaaDoor

/-- An instruction that looks at the program alone. -/
def poRun (P : Program) {α : Type} : Sem α → Option α
  | .pure a => some a
  | .program k => poRun P (k P)
  | _ => none

theorem po_b {P : Program} {α β : Type} {s : Sem α} {f : α → Sem β} {a : α} (h : poRun P s = some a) : poRun P (s >>= f) = poRun P (f a) := by
  change poRun P (s.bind f) = _
  induction s with
  | pure b => simp only [poRun] at h; cases h; rfl
  | program k ih => exact ih P h
  | _ => cases h
theorem po_bind {P : Program} {α β : Type} (s : Sem α) (f : α → Sem β) : poRun P (s >>= f) = (poRun P s).bind fun a => poRun P (f a) := by
  change poRun P (s.bind f) = _
  induction s with
  | pure b => rfl
  | program k ih => exact ih P
  | _ => rfl
theorem po_p {P : Program} {α : Type} (a : α) : poRun P (pure a : Sem α) = some a := rfl

theorem po_wp {P : Program} {α : Type} {s : Sem α} {a : α} (h : poRun P s = some a) (hp : Hp) : wpH P s (fun u h' => u = a ∧ h' = hp) hp := by
  induction s with
  | pure b => simp only [poRun] at h; cases h; exact ⟨rfl, rfl⟩
  | program k ih => exact ih P h
  | _ => cases h

theorem po_under {P : Program} {t : TypeId} {d : TypeDesc} (h : P.underlying t = some d) : poRun P (underlying t) = some d := by
  unfold underlying
  rw [po_b (a := P) rfl, h]; rfl

def leafTy (P : Program) (t : TypeId) (s : Sh) : Bool :=
  match P.underlying t, s with
  | some (.int k), .int k' => decide (k = k')
  | some .bool, .bool => true
  | some .string, .str => true
  | _, _ => false

def shOk : Sh → Value → Bool
  | .int k, .int k' _ => decide (k = k')
  | .bool, .bool _ => true
  | .str, .string _ => true
  | _, _ => false

theorem po_leaf {P : Program} {t : TypeId} {s : Sh} {x y : Value} (h : leafTy P t s = true) (hx : shOk s x = true) (hy : shOk s y = true) (d : Nat) : poRun P (Op.equalIn (d + 1) t x y) = some (leafEq x y) := by
  unfold leafTy at h
  cases hu : P.underlying t with
  | none => rw [hu] at h; cases s <;> cases h
  | some u =>
    rw [hu] at h
    unfold Op.equalIn
    rw [po_b (po_under hu)]
    cases u <;> cases s <;> try (cases h; done)
    case int.int k k' =>
      cases x <;> simp [shOk] at hx
      cases y <;> simp [shOk] at hy
      subst hx; subst hy
      simp only [if_true]; rfl
    case bool.bool =>
      cases x <;> simp [shOk] at hx
      cases y <;> simp [shOk] at hy
      rfl
    case string.str =>
      cases x <;> simp [shOk] at hx
      cases y <;> simp [shOk] at hy
      simp only [leafEq]
      rw [beq_toListBytes, eqList]; rfl

theorem po_part {P : Program} {t : TypeId} {s : Sh} (h : leafTy P t s = true) {cs : Array Value} {i : Nat} {v : Value} (hv : cs[i]? = some v) : poRun P (part t cs i) = some v := by
  unfold leafTy at h
  cases hu : P.underlying t with
  | none => rw [hu] at h; cases s <;> cases h
  | some u =>
    rw [hu] at h
    unfold part isAgg
    rw [po_b (a := false)]
    · simp only [Bool.false_eq_true, if_false, hv]; rfl
    · rw [po_b (po_under hu)]
      cases u <;> cases s <;> first
        | rfl
        | (cases h; done)

def flatOk (P : Program) : List Field → List Sh → Nat → Bool
  | [], [], _ => true
  | f :: fs, s :: ss, i => decide (f.name ≠ "_") && (decide (f.offset = i) && (leafTy P f.type s && flatOk P fs ss (i + 1)))
  | _, _, _ => false

theorem hasShs_cons {s : Sh} {ss : List Sh} {vs : List Value} (h : hasShs (s :: ss) vs = true) : ∃ v r, vs = v :: r ∧ shOk s v = true ∧ hasShs ss r = true := by
  cases vs with
  | nil => cases s <;> cases h
  | cons v r =>
    refine ⟨v, r, rfl, ?_⟩
    cases s <;> cases v <;> try (cases h; done)
    case int.int k k' n =>
      simp only [hasShs] at h
      by_cases e : k = k'
      · subst e; simp at h; exact ⟨by simp [shOk], h⟩
      · simp [e] at h
    all_goals exact ⟨rfl, h⟩

theorem po_fields {P : Program} (d : Nat) : ∀ (fs : List Field) (ss : List Sh) (i : Nat) (xs ys : List Value) (xa ya : Array Value), flatOk P fs ss i = true → hasShs ss xs = true → hasShs ss ys = true →
    (∀ k, xs[k]? = xa[i + k]?) → (∀ k, ys[k]? = ya[i + k]?) → poRun P (Op.eqFields (d + 1) xa ya fs) = some (aggEq xs ys)
  | [], [], i, xs, ys, xa, ya, _, hx, hy, _, _ => by
    cases xs <;> cases ys <;> try (cases hx; done)
    · rfl
    · cases hy
  | [], _ :: _, _, _, _, _, _, h, _, _, _, _ => by cases h
  | _ :: _, [], _, _, _, _, _, h, _, _, _, _ => by cases h
  | f :: fs, s :: ss, i, xs, ys, xa, ya, h, hx, hy, ex, ey => by
    simp only [flatOk, Bool.and_eq_true, decide_eq_true_eq] at h
    obtain ⟨h1, h2, h3, h4⟩ := h
    obtain ⟨x, xr, rfl, hx1, hx2⟩ := hasShs_cons hx
    obtain ⟨y, yr, rfl, hy1, hy2⟩ := hasShs_cons hy
    unfold Op.eqFields
    rw [if_pos h1, h2, po_b (po_part h3 (v := x) (by have := ex 0; simpa using this.symm)), po_b (po_part h3 (v := y) (by have := ey 0; simpa using this.symm)), po_b (po_leaf h3 hx1 hy1 d)]
    simp only [aggEq]
    cases leafEq x y with
    | false => simp; rfl
    | true =>
      simp only [Bool.not_true, Bool.false_eq_true, if_false, Bool.true_and]
      exact po_fields d fs ss (i + 1) xr yr xa ya h4 hx2 hy2 (fun k => by have := ex (k + 1); simp at this; rw [this]; congr 1; omega) (fun k => by have := ey (k + 1); simp at this; rw [this]; congr 1; omega)

/-- A struct is compared field by field. -/
theorem po_structF {P : Program} {t : TypeId} {fs : Array Field} (hu : P.underlying t = some (.struct fs)) (hp : P.stoodInHeld t = false) (xa ya : Array Value) (d : Nat) :
    poRun P (Op.equalIn (d + 1) t (.agg xa) (.agg ya)) = poRun P (Op.eqFields d xa ya fs.toList) := by
  unfold Op.equalIn
  rw [po_b (po_under hu)]
  simp only []
  rw [po_b (a := P) rfl]
  simp only [hp, Bool.false_eq_true, if_false]
  rw [← Array.forIn_toList]
  clear hu
  generalize fs.toList = l
  induction l with
  | nil => rfl
  | cons f l ih =>
    simp only [List.forIn_cons, Op.eqFields]
    by_cases hn : f.name ≠ "_"
    · simp only [hn, if_true, ne_eq, not_false_eq_true, bind_assoc, po_bind]
      cases poRun P (part f.type xa f.offset) <;> simp only [Option.bind_none, Option.bind_some]
      cases poRun P (part f.type ya f.offset) <;> simp only [Option.bind_none, Option.bind_some]
      rename_i a b
      cases poRun P (Op.equalIn d f.type a b) <;> simp only [Option.bind_none, Option.bind_some]
      rename_i r
      cases r
      · rfl
      · simp only [Bool.not_true, Bool.false_eq_true, if_false, po_p, Option.bind_some]
        simp only [po_bind] at ih
        exact ih
    · simp only [hn, if_false, pure_bind]
      exact ih

theorem po_struct {P : Program} {t : TypeId} {fs : Array Field} (hu : P.underlying t = some (.struct fs)) (hp : P.stoodInHeld t = false) {ss : List Sh} (hf : flatOk P fs.toList ss 0 = true) {xa ya : Array Value}
    (hx : hasShs ss xa.toList = true) (hy : hasShs ss ya.toList = true) (d : Nat) : poRun P (Op.equalIn (d + 2) t (.agg xa) (.agg ya)) = some (aggEq xa.toList ya.toList) := by
  rw [po_structF hu hp xa ya (d + 1)]
  exact po_fields d fs.toList ss 0 xa.toList ya.toList xa ya hf hx hy (fun k => by simp) (fun k => by simp)

/-! Structs with structs inside. -/
theorem hasShs_app : ∀ {a b : List Sh} {xs : List Value}, hasShs (a ++ b) xs = true → ∃ x1 x2, xs = x1 ++ x2 ∧ x1.length = a.length ∧ hasShs a x1 = true ∧ hasShs b x2 = true
  | [], b, xs, h => ⟨[], xs, rfl, rfl, rfl, h⟩
  | s :: a, b, xs, h => by
    rw [List.cons_append] at h
    obtain ⟨v, r, rfl, h1, h2⟩ := hasShs_cons h
    obtain ⟨x1, x2, rfl, h3, h4, h5⟩ := hasShs_app h2
    refine ⟨v :: x1, x2, rfl, by simp [h3], ?_, h5⟩
    cases s <;> cases v <;> simp [shOk] at h1 <;> simp [hasShs, h1, h4]

theorem aggEq_app : ∀ {a b c d : List Value}, a.length = c.length → aggEq (a ++ b) (c ++ d) = (aggEq a c && aggEq b d)
  | [], b, [], d, _ => by simp [aggEq]
  | x :: a, b, y :: c, d, h => by
    simp only [List.cons_append, aggEq]
    rw [aggEq_app (by simpa using h), Bool.and_assoc]
  | [], _, _ :: _, _, h => by simp at h
  | _ :: _, _, [], _, h => by simp at h

def segOk (P : Program) : List Field → List (Bool × List Sh) → Nat → Bool
  | [], [], _ => true
  | f :: fs, (g, ss) :: r, i => decide (f.name ≠ "_") && (decide (f.offset = i) && ((match g with
      | false => (match ss with | [s] => leafTy P f.type s | _ => false)
      | true => (match P.underlying f.type with | some (.struct fs') => !P.stoodInHeld f.type && flatOk P fs'.toList ss 0 | _ => false) && (match P.info? f.type with | some i => decide (i.size = ss.length) | none => false))
      && segOk P fs r (i + ss.length)))
  | _, _, _ => false

theorem po_segs {P : Program} (d : Nat) : ∀ (fs : List Field) (sg : List (Bool × List Sh)) (i : Nat) (xs ys : List Value) (xa ya : Array Value), segOk P fs sg i = true → hasShs (sg.flatMap (·.2)) xs = true → hasShs (sg.flatMap (·.2)) ys = true →
    (∀ k, xs[k]? = xa[i + k]?) → (∀ k, ys[k]? = ya[i + k]?) → poRun P (Op.eqFields (d + 2) xa ya fs) = some (aggEq xs ys)
  | [], [], i, xs, ys, xa, ya, _, hx, hy, _, _ => by
    cases xs <;> cases ys <;> try (cases hx; done)
    · rfl
    · cases hy
  | [], _ :: _, _, _, _, _, _, h, _, _, _, _ => by cases h
  | _ :: _, [], _, _, _, _, _, h, _, _, _, _ => by cases h
  | f :: fs, (g, ss) :: r, i, xs, ys, xa, ya, h, hx, hy, ex, ey => by
    simp only [segOk, Bool.and_eq_true, decide_eq_true_eq] at h
    obtain ⟨h1, h2, h3, h4⟩ := h
    rw [List.flatMap_cons] at hx hy
    obtain ⟨x1, x2, rfl, lx, hx1, hx2⟩ := hasShs_app hx
    obtain ⟨y1, y2, rfl, ly, hy1, hy2⟩ := hasShs_app hy
    have lx : x1.length = ss.length := lx
    have ly : y1.length = ss.length := ly
    have rest := po_segs d fs r (i + ss.length) x2 y2 xa ya h4 hx2 hy2 (fun k => by have := ex (ss.length + k); rw [List.getElem?_append_right (by omega)] at this; rw [show i + ss.length + k = i + (ss.length + k) by omega, ← this]; congr 1; omega)
      (fun k => by have := ey (ss.length + k); rw [List.getElem?_append_right (by omega)] at this; rw [show i + ss.length + k = i + (ss.length + k) by omega, ← this]; congr 1; omega)
    have fin : ∀ a b, poRun P (part f.type xa i) = some a → poRun P (part f.type ya i) = some b → poRun P (Op.equalIn (d + 2) f.type a b) = some (aggEq x1 y1) → poRun P (Op.eqFields (d + 2) xa ya (f :: fs)) = some (aggEq (x1 ++ x2) (y1 ++ y2)) := by
      intro a b pa pb pe
      unfold Op.eqFields
      rw [if_pos h1, h2, po_b pa, po_b pb, po_b pe, aggEq_app (by omega)]
      cases aggEq x1 y1 with
      | false => rfl
      | true =>
        simp only [Bool.not_true, Bool.false_eq_true, if_false, Bool.true_and]
        exact rest
    cases g with
    | false =>
      match ss, h3 with
      | [s], h3 =>
        obtain ⟨x, xr, rfl, hxs, hxr⟩ := hasShs_cons hx1
        obtain ⟨y, yr, rfl, hys, hyr⟩ := hasShs_cons hy1
        have h7 : xr = [] := by cases xr with
          | nil => rfl
          | cons a b => cases hxr
        subst h7
        have h8 : yr = [] := by cases yr with
          | nil => rfl
          | cons a b => cases hyr
        subst h8
        refine fin x y (po_part h3 (by have := ex 0; simpa using this.symm)) (po_part h3 (by have := ey 0; simpa using this.symm)) ?_
        rw [po_leaf h3 hxs hys (d + 1)]
        simp [aggEq]
    | true =>
      simp only [Bool.and_eq_true] at h3
      obtain ⟨h5, h6⟩ := h3
      cases hu : P.underlying f.type <;> rw [hu] at h5 <;> try (cases h5; done)
      rename_i td
      cases td <;> try (cases h5; done)
      rename_i fs'
      simp only [Bool.and_eq_true, Bool.not_eq_true'] at h5
      cases hi : P.info? f.type <;> rw [hi] at h6 <;> try (cases h6; done)
      rename_i inf
      simp only [decide_eq_true_eq] at h6
      have hpart : ∀ cs : Array Value, poRun P (part f.type cs i) = some (.agg (cs.extract i (i + ss.length))) := by
        intro cs
        unfold part isAgg
        rw [po_b (a := true)]
        · simp only [if_true]
          rw [po_b (a := ss.length)]
          · rfl
          · unfold sizeOf typeInfo
            rw [po_b (a := inf)]
            · rw [h6]; rfl
            · rw [po_b (a := P) rfl, hi]; rfl
        · rw [po_b (po_under hu)]; rfl
      have hex : ∀ (cs : Array Value) (l r : List Value), l.length = ss.length → (∀ k, (l ++ r)[k]? = cs[i + k]?) → (cs.extract i (i + ss.length)).toList = l := by
        intro cs l r hl he
        apply List.ext_getElem?
        intro k
        rw [Array.getElem?_toList, Array.getElem?_extract]
        by_cases hk : k < ss.length
        · have := he k
          rw [List.getElem?_append_left (by omega)] at this
          rw [this]
          split
          · rfl
          · rename_i hn
            rw [Array.getElem?_eq_none (by omega)]
        · rw [List.getElem?_eq_none (by omega), if_neg (by omega)]
      refine fin _ _ (hpart xa) (hpart ya) ?_
      have e1 := hex xa x1 x2 lx ex
      have e2 := hex ya y1 y2 ly ey
      rw [po_struct hu h5.1 h5.2 (by rw [e1]; exact hx1) (by rw [e2]; exact hy1) d, e1, e2]

theorem po_struct2 {P : Program} {t : TypeId} {fs : Array Field} (hu : P.underlying t = some (.struct fs)) (hp : P.stoodInHeld t = false) {sg : List (Bool × List Sh)} (hf : segOk P fs.toList sg 0 = true) {xa ya : Array Value}
    (hx : hasShs (sg.flatMap (·.2)) xa.toList = true) (hy : hasShs (sg.flatMap (·.2)) ya.toList = true) (d : Nat) : poRun P (Op.equalIn (d + 3) t (.agg xa) (.agg ya)) = some (aggEq xa.toList ya.toList) := by
  rw [po_structF hu hp xa ya (d + 2)]
  exact po_segs d fs.toList sg 0 xa.toList ya.toList xa ya hf hx hy (fun k => by simp) (fun k => by simp)

theorem po_array {P : Program} {t e : TypeId} {n : Nat} (hu : P.underlying t = some (.array n e)) (hi : (P.info? e).map (·.size) = some 1) {s : Sh} (hf : leafTy P e s = true) {ss : List Sh} (hs : ss = List.replicate n s) {xa ya : Array Value}
    (hx : hasShs ss xa.toList = true) (hy : hasShs ss ya.toList = true) (d : Nat) : poRun P (Op.equalIn (d + 2) t (.agg xa) (.agg ya)) = some (aggEq xa.toList ya.toList) := by
  unfold Op.equalIn
  rw [po_b (po_under hu)]
  simp only []
  have hsz : poRun P (sizeOf e) = some 1 := by
    obtain ⟨i, hi, h1⟩ := Option.map_eq_some_iff.1 hi
    unfold sizeOf typeInfo
    rw [po_b (a := i)]
    · rw [h1]; rfl
    · rw [po_b (a := P) rfl, hi]; rfl
  rw [po_b hsz]
  simp only [Std.Legacy.Range.forIn_eq_forIn_range', Std.Legacy.Range.size, Nat.mul_one]
  have key : ∀ (m k : Nat) (xs ys : List Value), hasShs (List.replicate m s) xs = true → hasShs (List.replicate m s) ys = true → (∀ j, xs[j]? = xa[k + j]?) → (∀ j, ys[j]? = ya[k + j]?) →
      poRun P (do
        let r ← forIn (List.range' k m) ((none : Option Bool), ()) fun i _ => do
          let a ← part e xa i
          let b ← part e ya i
          let r ← Op.equalIn (d + 1) e a b
          if (!r) = true then pure (ForInStep.done (some false, ())) else pure (ForInStep.yield (none, ()))
        match r.fst with
        | some a => pure a
        | none => pure true) = some (aggEq xs ys) := by
    intro m
    induction m with
    | zero =>
      intro k xs ys hx hy _ _
      cases xs <;> cases ys <;> try (cases hx; done)
      · rfl
      · cases hy
    | succ m ih =>
      intro k xs ys hx hy ex ey
      rw [List.replicate_succ] at hx hy
      obtain ⟨x, xr, rfl, hx1, hx2⟩ := hasShs_cons hx
      obtain ⟨y, yr, rfl, hy1, hy2⟩ := hasShs_cons hy
      have a1 : poRun P (part e xa k) = some x := po_part hf (by have := ex 0; simpa using this.symm)
      have a2 : poRun P (part e ya k) = some y := po_part hf (by have := ey 0; simpa using this.symm)
      simp only [List.range'_succ, List.forIn_cons, bind_assoc]
      rw [po_b a1, po_b a2, po_b (po_leaf hf hx1 hy1 d)]
      simp only [aggEq]
      cases leafEq x y with
      | false => rfl
      | true =>
        simp only [Bool.not_true, Bool.false_eq_true, if_false, Bool.true_and, pure_bind]
        exact ih (k + 1) xr yr hx2 hy2 (fun j => by have := ex (j + 1); simp at this; rw [this]; congr 1; omega) (fun j => by have := ey (j + 1); simp at this; rw [this]; congr 1; omega)
  subst hs
  have := key n 0 xa.toList ya.toList hx hy (fun j => by simp) (fun j => by simp)
  have e : (n - 0 + 1 - 1) / 1 = n := by omega
  rw [e]
  rw [po_bind] at this ⊢
  revert this
  generalize poRun P (forIn (List.range' 0 n) _ _) = q
  intro this
  cases q with
  | none => exact this
  | some r => obtain ⟨r1, r2⟩ := r; cases r1 <;> exact this

/-- What makes a type's values be compared cell by cell. -/
theorem eqt_of {P : Program} {t : TypeId} {ss : List Sh} (hg : P.eqGuardType P.depth t = false)
    (he : ∀ xa ya : Array Value, hasShs ss xa.toList = true → hasShs ss ya.toList = true → poRun P (Op.equalIn (9998 + 2) t (.agg xa) (.agg ya)) = some (aggEq xa.toList ya.toList))
    (xs ys : Array Value) (h : Hp) (hx : hasShs ss xs.toList = true) (hy : hasShs ss ys.toList = true) (a b : Operand) :
    wpH P (do eqGuard .eql t a b (.agg xs) (.agg ys); binOp .eql t (.agg xs) (.agg ys)) (fun v h' => v = .bool (aggEq xs.toList ys.toList) ∧ h' = h) h ∧
    wpH P (do eqGuard .neq t a b (.agg xs) (.agg ys); binOp .neq t (.agg xs) (.agg ys)) (fun v h' => v = .bool (!aggEq xs.toList ys.toList) ∧ h' = h) h := by
  have g : ∀ op, op = .eql ∨ op = .neq → poRun P (eqGuard op t a b (.agg xs) (.agg ys)) = some () := by
    rintro op (rfl | rfl) <;> unfold eqGuard <;> simp only [Bool.not_true, Bool.false_eq_true, if_false] <;> rw [po_b (a := P) rfl, po_b (a := P) rfl, hg] <;> rfl
  have h1 := he xs ys hx hy
  constructor
  · refine po_wp ?_ h
    rw [po_b (g _ (.inl rfl))]
    unfold binOp
    simp only []
    change poRun P (do pure (Value.bool (← Op.equalIn (9998 + 2) t (.agg xs) (.agg ys)))) = _
    rw [po_b h1]; rfl
  · refine po_wp ?_ h
    rw [po_b (g _ (.inr rfl))]
    unfold binOp
    simp only []
    change poRun P (do pure (Value.bool (!(← Op.equalIn (9998 + 2) t (.agg xs) (.agg ys))))) = _
    rw [po_b h1]; rfl

end Go.Proofs.YtkhfofnglkekoaaDoor
