/- Own verification-condition framework, part Zd: what is asked of a program's tables, by looking through them. Conditions: none. -/
import Derived.Test.YtkhfofnglkekoaaDoorVcZc
namespace Go.Proofs.YtkhfofnglkekoaaDoor

def E0 : ByteArray := ⟨#[]⟩

def lookT : List (Nat × TI) → Nat → TI
  | [], _ => ⟨.other, 0, 0, [], []⟩
  | (a, x) :: r, t => cond (Nat.beq a t) x (lookT r t)

theorem lookT_mem : ∀ (l : List (Nat × TI)) (t : Nat), (t, lookT l t) ∈ l ∨ (lookT l t).kind = .other
  | [], t => .inr rfl
  | (a, x) :: r, t => by
    unfold lookT
    cases h : Nat.beq a t with
    | true => rw [Nat.eq_of_beq_eq_true h]; exact .inl (by simp)
    | false => exact (lookT_mem r t).imp (fun h => List.mem_cons_of_mem _ h) id

def tyVal (l : List (Nat × TI)) : List (Nat × TI) := l.filter fun p => p.2.kind.val

def tyBool (P : Program) (T : Nat → TI) (p : Nat × TI) : Bool :=
  Nat.beq p.2.zero.length p.2.size && (Nat.beq p.2.sh.length p.2.size && (p.2.zero.all leafB && ((p.2.kind.agg || Nat.beq p.2.size 1) &&
    (match p.2.kind with
    | .struct _ ts => ts.all fun u => (T u).kind.val && !Nat.beq (T u).size 0
    | .array _ e => (T e).kind.val
    | .slice e => (T e).kind.val
    | .map k e => (T k).kind.val && (T e).kind.val
    | .ptr => (match P.underlying p.1 with | some (.pointer e) => (P.info? e).isSome | _ => false)
    | _ => true))))

theorem map_mem {α β : Type} {f g : α → β} : ∀ {l : List α}, l.map f = l.map g → ∀ x ∈ l, f x = g x
  | [], _, _, h => by cases h
  | a :: l, h, x, hx => by
    simp only [List.map_cons, List.cons.injEq] at h
    rcases List.mem_cons.1 hx with rfl | hx
    · exact h.1
    · exact map_mem h.2 x hx

theorem tok_of {P : Program} {l : List (Nat × TI)} (hU : (tyVal l).map (fun p => (P.underlying p.1).map kdOf) = (tyVal l).map fun p => some p.2.kind)
    (hI : (tyVal l).map (fun p => (P.info? p.1).map fun i => (i.size, i.bytes, i.zero)) = (tyVal l).map fun p => some (p.2.size, p.2.bytes, some (mkV p.2.kind.agg p.2.zero)))
    (hB : (tyVal l).all (tyBool P (lookT l)) = true) : TOk P (lookT l) := by
  have mem : ∀ t, (lookT l t).kind.val = true → (t, lookT l t) ∈ tyVal l := by
    intro t h
    rcases lookT_mem l t with h1 | h1
    · exact List.mem_filter.2 ⟨h1, h⟩
    · rw [h1] at h; cases h
  have hb : ∀ t, (lookT l t).kind.val = true → tyBool P (lookT l) (t, lookT l t) = true := fun t h => List.all_eq_true.1 hB _ (mem t h)
  simp only [tyBool, Bool.and_eq_true] at hb
  refine ⟨fun t h => map_mem hU _ (mem t h), fun t h => ?_, fun t h ha => ?_, fun t offs ts hk u hu => ?_, fun t hk => ?_, fun t n e hk => ?_, fun t e hk => ?_, fun t k e hk => ?_⟩
  · have h1 := map_mem hI _ (mem t h)
    obtain ⟨i, hi, h2⟩ := Option.map_eq_some_iff.1 h1
    obtain ⟨h3, h4, h5, _⟩ := hb t h
    simp only [Prod.mk.injEq] at h2
    exact ⟨i, hi, h2.1, h2.2.1, h2.2.2, Nat.eq_of_beq_eq_true h3, Nat.eq_of_beq_eq_true h4, h5⟩
  · have := (hb t h).2.2.2.1
    rw [ha] at this
    exact Nat.eq_of_beq_eq_true (by simpa using this)
  · have := (hb t (by rw [hk]; rfl)).2.2.2.2
    rw [hk] at this
    have h1 := List.all_eq_true.1 this u hu
    simp only [Bool.and_eq_true, Bool.not_eq_true'] at h1
    refine ⟨h1.1, fun e => ?_⟩
    rw [e] at h1
    simp at h1
  · have := (hb t (by rw [hk]; rfl)).2.2.2.2
    rw [hk] at this
    dsimp only at this
    cases hu : P.underlying t <;> rw [hu] at this <;> try (cases this; done)
    rename_i d
    cases d <;> try (cases this; done)
    exact ⟨_, rfl, this⟩
  · have := (hb t (by rw [hk]; rfl)).2.2.2.2
    rw [hk] at this
    exact this
  · have := (hb t (by rw [hk]; rfl)).2.2.2.2
    rw [hk] at this
    exact this
  · have := (hb t (by rw [hk]; rfl)).2.2.2.2
    rw [hk] at this
    simpa using this

/-- The functions: one look over all of them. -/
def fnB (P : Program) (f : Nat) : Bool := match P.funcs[f]? with | some fn => !fn.body.isNone && !(fn.name == "runtime.NumGoroutine") | none => false

theorem fns_of {P : Program} {ok : Nat → Bool} {n : Nat} (h : (List.range n).all (fun f => !ok f || fnB P f) = true) (hn : ∀ f, ok f = true → f < n) : ∀ f, ok f = true → ∃ fn, P.funcs[f]? = some fn ∧ fn.body.isNone = false ∧ (fn.name == "runtime.NumGoroutine") = false := by
  intro f hf
  have := List.all_eq_true.1 h f (List.mem_range.2 (hn f hf))
  simp only [hf, Bool.not_true, Bool.false_or, fnB] at this
  cases hx : P.funcs[f]? with
  | none => rw [hx] at this; cases this
  | some fn =>
    rw [hx] at this
    simp only [Bool.and_eq_true, Bool.not_eq_true'] at this
    exact ⟨fn, rfl, this.1, this.2⟩

end Go.Proofs.YtkhfofnglkekoaaDoor
