/- Own verification-condition framework, part T: one step of a region. Conditions: none. -/
import Derived.Test.YtkhfofnglkekoaaDoorVcS
namespace Go.Proofs.YtkhfofnglkekoaaDoor

theorem upd_same {σ : Env} {d : Nat} {x : SV} (h : σ d = x) : upd σ d x = σ := by
  funext i
  unfold upd
  cases hb : Nat.beq i d with
  | true => rw [Nat.eq_of_beq_eq_true hb, h]; rfl
  | false => rfl

/-- One step: the operation runs, or it is not wanted. -/
def vcStep (cx : Cx) (m : Option (Hp → Prop)) (all : List Oper) (o : Oper) (k : Env → Loc → Hp → Prop) (σ : Env) (loc : Loc) (h : Hp) : Prop :=
  match o.guard with
  | none => vcRun cx m o k σ loc h
  | some (j, want) => ∃ d, gtmp all j = some d ∧ ((∃ t, σ d = .val (.bool t) ∧ ((t = want ∧ vcRun cx m o k σ loc h) ∨ (t ≠ want ∧ k (put cx σ o.dst (.val undef)) loc h))) ∨
      (∃ vs, σ d = .val (.tuple vs) ∧ k (put cx σ o.dst (.val undef)) loc h))

theorem vcOps_step {cx : Cx} {m : Option (Hp → Prop)} {all : List Oper} {o : Oper} {r : List Oper} {K : Env → Loc → Hp → Prop} {σ : Env} {loc : Loc} {h : Hp} (H : vcOps cx m all (o :: r) K σ loc h) :
    vcStep cx m all o (vcOps cx m all r K) σ loc h := by
  unfold vcOps at H
  unfold vcStep
  cases hg : o.guard with
  | none => rw [hg] at H; exact H
  | some p =>
    obtain ⟨j, want⟩ := p
    rw [hg] at H
    dsimp only at H ⊢
    cases hd : gtmp all j <;> rw [hd] at H <;> try exact False.elim H
    rename_i d
    refine ⟨d, rfl, ?_⟩
    dsimp only at H
    cases hs : σ d <;> rw [hs] at H <;> try exact False.elim H
    rename_i v
    cases v <;> try exact False.elim H
    case bool t =>
      refine .inl ⟨t, rfl, ?_⟩
      cases want <;> cases t <;> simp only [bsplit] at H <;> rw [upd_same hs] at H
      · exact .inl ⟨rfl, H⟩
      · exact .inr ⟨by decide, H⟩
      · exact .inr ⟨by decide, H⟩
      · exact .inl ⟨rfl, H⟩
    case tuple vs => exact .inr ⟨vs, rfl, H⟩

section
variable {cx : Cx} {w0 : World} {h0 : Hp} {n : Nat} {σ : Env} {loc : Loc} {h : Hp} {adr : Nat → Nat} {a : Act} {w : World}

theorem getD_some {xs : Array Value} {d : Nat} {v : Value} (h : xs.getD d undef = v) (hv : v ≠ undef) : xs[d]? = some v := by
  rcases Nat.lt_or_ge d xs.size with hlt | hge
  · simp [hlt] at h
    simp [hlt, h]
  · rw [Array.getD_eq_getD_getElem?, Array.getElem?_eq_none hge] at h
    exact absurd h.symm hv

/-- ONE STEP OF A REGION. -/
theorem step_op (cok : CxOk cx) {ops : Array Oper} {i : Nat} {o : Oper} (hi : ops[i]? = some o) {m : Option (Hp → Prop)} {k : Env → Loc → Hp → Prop} (st : St cx w0 h0 n σ loc h adr a w) (hs : aftS m h)
    (hd : ∀ d, o.dst = some d → d < n) (H : vcStep cx m ops.toList o k σ loc h)
    {K : Act → World → Prop} {Q : Exit → Act → World → Prop} (hK : ∀ σ' loc' h' adr' a' w', St cx w0 h0 n σ' loc' h' adr' a' w' → Kp (fun i => wrO i o) (fun i => stO cx i o) loc adr h a w loc' adr' h' a' w' → aftS m h' → k σ' loc' h' → K a' w') : wpOp cx.P ops Q i K a w := by
  unfold wpOp
  rw [hi]
  dsimp only
  unfold vcStep at H
  cases hg : o.guard with
  | none =>
    rw [hg] at H
    have : Region.wanted o (yielded ops a.tmps) = true := by unfold Region.wanted; rw [hg]
    rw [if_pos this]
    exact .inl (run_op cok st hs hd H hK)
  | some p =>
    obtain ⟨j, want⟩ := p
    rw [hg] at H
    obtain ⟨d, hgt, H⟩ := H
    have hj : (ops[j]?).bind (·.dst) = some d := by
      unfold gtmp at hgt
      rw [Array.getElem?_toList] at hgt
      cases ho : ops[j]? <;> rw [ho] at hgt
      · cases hgt
      · exact hgt
    have ht := st.tm d
    rcases H with ⟨t, hσ, H⟩ | ⟨vs, hσ, H⟩
    · rw [hσ] at ht
      have hy : yielded ops a.tmps j = some t := by
        unfold yielded
        rw [hj, Option.bind_some, getD_some ht (by simp [undef])]
      rcases H with ⟨rfl, H⟩ | ⟨hne, H⟩
      · have : Region.wanted o (yielded ops a.tmps) = true := by unfold Region.wanted; rw [hg]; dsimp only; rw [hy]; simp
        rw [if_pos this]
        exact .inl (run_op cok st hs hd H hK)
      · have : Region.wanted o (yielded ops a.tmps) = false := by unfold Region.wanted; rw [hg]; dsimp only; rw [hy]; simp [hne]
        rw [this]
        exact hK _ _ _ _ _ _ (st.put hd (x := .val undef) rfl) (Kp.put (.fr (Fr.refl st.fr.sub))) hs H
    · rw [hσ] at ht
      have hy : yielded ops a.tmps j = none := by
        unfold yielded
        rw [hj, Option.bind_some]
        have ht' : a.tmps.getD d undef = .tuple vs := ht
        rcases Nat.lt_or_ge d a.tmps.size with hlt | hge
        · simp [hlt] at ht'
          simp [hlt, ht']
        · rw [Array.getElem?_eq_none hge]
      have : Region.wanted o (yielded ops a.tmps) = false := by unfold Region.wanted; rw [hg]; dsimp only; rw [hy]; rfl
      rw [this]
      exact hK _ _ _ _ _ _ (st.put hd (x := .val undef) rfl) (Kp.put (.fr (Fr.refl st.fr.sub))) hs H

/-- What stays in a region. -/
abbrev KpR (cx : Cx) (ops : Array Oper) := Kp (fun i => ops.toList.any (wrO i)) (fun i => ops.toList.any (stO cx i))

theorem Kp.op {ops : Array Oper} {o : Oper} {loc1 loc loc' : Loc} {adr1 adr adr' : Nat → Nat} {h1 h h' : Hp} {a1 a a' : Act} {w1 w w' : World} (x : KpR cx ops loc1 adr1 h1 a1 w1 loc adr h a w) (hm : o ∈ ops.toList)
    (y : Kp (fun i => wrO i o) (fun i => stO cx i o) loc adr h a w loc' adr' h' a' w') : KpR cx ops loc1 adr1 h1 a1 w1 loc' adr' h' a' w' :=
  Kp.trans x (y.mono (fun _ hk => List.any_eq_true.2 ⟨o, hm, hk⟩) (fun _ hk => List.any_eq_true.2 ⟨o, hm, hk⟩))

/-- A region in order. -/
theorem ops_run (cok : CxOk cx) {ops : Array Oper} {K : Env → Loc → Hp → Prop} {Q : Exit → Act → World → Prop} (hd : ∀ o ∈ ops.toList, ∀ d, o.dst = some d → d < n)
    {loc1 : Loc} {adr1 : Nat → Nat} {h1 : Hp} {a1 : Act} {w1 : World}
    (hK : ∀ σ' loc' h' adr' a' w', St cx w0 h0 n σ' loc' h' adr' a' w' → KpR cx ops loc1 adr1 h1 a1 w1 loc' adr' h' a' w' → K σ' loc' h' → Q .normal a' w') : ∀ (l : List Oper) (i : Nat) (σ : Env) (loc : Loc) (h : Hp) (adr : Nat → Nat) (a : Act) (w : World),
    ops.toList.drop i = l → St cx w0 h0 n σ loc h adr a w → KpR cx ops loc1 adr1 h1 a1 w1 loc adr h a w → vcOps cx none ops.toList l K σ loc h → wpOps cx.P ops Q (List.range' i l.length) a w := by
  intro l
  induction l with
  | nil => intro i σ loc h adr a w _ st kp H; exact hK _ _ _ _ _ _ st kp H
  | cons o r ih =>
    intro i σ loc h adr a w hl st kp H
    have hi : ops[i]? = some o := by
      have : (ops.toList.drop i)[0]? = some o := by rw [hl]; rfl
      simpa using this
    have hr : ops.toList.drop (i + 1) = r := by
      rw [← List.drop_drop, hl]; rfl
    rw [List.length_cons, List.range'_succ, wpOps_cons]
    have hm : o ∈ ops.toList := List.mem_of_mem_drop (i := i) (by rw [hl]; simp)
    exact step_op cok hi st (m := none) trivial (hd o hm) (vcOps_step H) fun σ' loc' h' adr' a' w' st' kp' _ H' => ih (i + 1) σ' loc' h' adr' a' w' hr st' (kp.op hm kp') H'
end

end Go.Proofs.YtkhfofnglkekoaaDoor
