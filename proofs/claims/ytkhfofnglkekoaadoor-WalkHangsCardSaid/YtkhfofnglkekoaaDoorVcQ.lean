/- Own verification-condition framework, part Q: results of operations that touch a local; monotony of operations on memory. Conditions: none. -/
import Derived.Test.YtkhfofnglkekoaaDoorVcO
namespace Go.Proofs.YtkhfofnglkekoaaDoor

theorem vcQ_uni {cx : Cx} {o : Oper} {σ : Env} : Un (fun K loc rd => vcQ cx o K σ loc rd) := by
  cases hl : locOp σ o with
  | false => exact vcQ_uni0 hl
  | true =>
    obtain ⟨dst, op, ty, pos, after, guard⟩ := o
    cases op <;> try (simp [locOp] at hl; done)
    case alloc e =>
      simp only [vcQ]
      cases dst with
      | none => exact Un.no
      | some d =>
        try dsimp only
        cases (cx.ow.all fun p => !Nat.beq p.2 d || notLoc (σ p.1)) && (cx.T e).kind.val <;> dsimp only
        · exact Un.no
        · exact fun _ _ _ _ _ _ H1 H2 => ⟨_, _, H1, H2⟩
    case box e x =>
      simp only [vcQ]
      cases dst with
      | none => exact Un.no
      | some d =>
        try dsimp only
        cases opnd σ x <;> (try dsimp only) <;> try exact Un.no
        rename_i v
        cases cellsO (cx.T e).kind.agg v <;> (try dsimp only) <;> try exact Un.no
        rename_i cs
        cases (cx.ow.all fun p => !Nat.beq p.2 d || notLoc (σ p.1)) && (Nat.beq cs.length (cx.T e).size && (cx.T e).kind.val) <;> dsimp only
        · exact Un.no
        · exact fun _ _ _ _ _ _ H1 H2 => ⟨_, _, H1, H2⟩
    case load t x =>
      cases hx : opnd σ x with
      | val v => simp [locOp, hx] at hl
      | any => simp [locOp, hx] at hl
      | loc k f =>
        simp only [vcQ, hx]
        intro K1 K2 loc rd h _ H1 H2
        cases hk : loc k <;> rw [hk] at H1 H2 <;> try exact False.elim H1
        rename_i p
        obtain ⟨c, e⟩ := p
        simp only at H1 H2
        cases hb : (Nat.ble (f + (cx.T t).size) c.length && (cx.T t).kind.val) <;> rw [hb] at H1 H2 <;> try exact False.elim H1
        cases hg : (cx.T t).kind.agg <;> rw [hg] at H1 H2
        · exact ⟨_, _, H1, H2⟩
        · exact ⟨_, _, H1, H2⟩
    case store t x v =>
      simp only [vcQ]
      cases opnd σ x <;> (try dsimp only) <;> try exact Un.no
      rename_i k f
      cases opnd σ v <;> (try dsimp only) <;> try exact Un.no
      rename_i u
      intro K1 K2 loc rd h _ H1 H2
      cases hk : loc k <;> rw [hk] at H1 H2 <;> try exact False.elim H1
      rename_i p
      obtain ⟨c, e⟩ := p
      cases hcs : cellsO (cx.T t).kind.agg u <;> rw [hcs] at H1 H2 <;> try exact False.elim H1
      rename_i cs
      simp only at H1 H2
      cases hb : (Nat.beq cs.length (cx.T t).size && (Nat.ble (f + cs.length) c.length && (cs.all leafB && (cx.T t).kind.val))) <;> rw [hb] at H1 H2 <;> try exact False.elim H1
      exact ⟨_, _, H1, H2⟩

end Go.Proofs.YtkhfofnglkekoaaDoor
