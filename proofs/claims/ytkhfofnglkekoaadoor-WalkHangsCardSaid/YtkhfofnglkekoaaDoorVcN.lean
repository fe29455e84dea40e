/- Own verification-condition framework, part N: results of operations, independent operations. Conditions: none. -/
import Derived.Test.YtkhfofnglkekoaaDoorVcM
namespace Go.Proofs.YtkhfofnglkekoaaDoor

theorem Wt.read {F : QF} (w : Wt none F) (k : Nat) : Wt (some (k, false)) F := fun K loc rd H =>
  let ⟨sv, u, h1, h2⟩ := w K loc rd H
  ⟨sv, u, h1, fun K2 loc2 rd2 a _ c => h2 K2 loc2 rd2 a (fun _ _ h => by cases h) c⟩

theorem opnd_loc {σ : Env} {x : Operand} {k o : Nat} (h : opnd σ x = .loc k o) : ∃ t, x = .tmp t ∧ σ t = .loc k o := by
  cases x <;> simp [opnd] at h
  exact ⟨_, rfl, h⟩

/-- EVERY QUIET OPERATION GIVES ONE RESULT. -/
theorem vcQ_wit {cx : Cx} {o : Oper} {σ : Env} (own : ∀ i k o, σ i = .loc k o → cx.own i = some k) (he : effB cx o = false) : Wt (locAcc cx o) (fun K loc rd => vcQ cx o K σ loc rd) := by
  cases hl : locOp σ o with
  | false =>
    have w := vcQ_wit0 (cx := cx) hl
    obtain ⟨dst, op, ty, pos, after, guard⟩ := o
    cases op <;> try exact w
    case alloc => simp [locOp] at hl
    case box => simp [locOp] at hl
    case store => simp [locOp] at hl
    case load t x =>
      cases x <;> try exact w
      rename_i i
      simp only [locAcc]
      cases cx.own i
      · exact w
      · exact w.read _
  | true =>
    obtain ⟨dst, op, ty, pos, after, guard⟩ := o
    cases op <;> try (simp [locOp] at hl; done)
    case alloc e =>
      simp only [locAcc, vcQ]
      cases dst with
      | none => exact Wt.no
      | some d =>
        dsimp only
        cases (cx.ow.all fun p => !Nat.beq p.2 d || notLoc (σ p.1)) && (cx.T e).kind.val <;> dsimp only
        · exact Wt.no
        · exact fun K loc rd H => ⟨.loc d 0, some ((cx.T e).zero, e), H, fun K2 loc2 rd2 _ _ h => h⟩
    case box e x =>
      simp only [locAcc, vcQ]
      cases dst with
      | none => exact Wt.no
      | some d =>
        dsimp only
        cases opnd σ x <;> (try dsimp only) <;> try exact Wt.no
        rename_i v
        cases cellsO (cx.T e).kind.agg v <;> (try dsimp only) <;> try exact Wt.no
        rename_i cs
        cases (cx.ow.all fun p => !Nat.beq p.2 d || notLoc (σ p.1)) && (Nat.beq cs.length (cx.T e).size && (cx.T e).kind.val) <;> dsimp only
        · exact Wt.no
        · exact fun K loc rd H => ⟨.loc d 0, some (cs, e), H, fun K2 loc2 rd2 _ _ h => h⟩
    case load t x =>
      cases hx : opnd σ x with
      | val v => simp [locOp, hx] at hl
      | any => simp [locOp, hx] at hl
      | loc k f =>
        obtain ⟨i, rfl, hi⟩ := opnd_loc hx
        simp only [locAcc, own i k f hi, vcQ, hx]
        intro K loc rd H
        cases hk : loc k <;> rw [hk] at H <;> try exact False.elim H
        rename_i p
        obtain ⟨c, e⟩ := p
        simp only at H
        cases hb : (Nat.ble (f + (cx.T t).size) c.length && (cx.T t).kind.val) <;> rw [hb] at H <;> try exact False.elim H
        cases hg : (cx.T t).kind.agg <;> rw [hg] at H
        · exact ⟨_, none, H, fun K2 loc2 rd2 _ e2 h => by dsimp only; rw [e2 k false rfl, hk]; simp only [hb]; exact h⟩
        · exact ⟨_, none, H, fun K2 loc2 rd2 _ e2 h => by dsimp only; rw [e2 k false rfl, hk]; simp only [hb]; exact h⟩
    case store t x v =>
      simp only [effB] at he
      cases x <;> try (simp at he; done)
      rename_i i
      cases hi : opnd σ (.tmp i) with
      | val u => simp only [vcQ, hi]; exact fun K loc rd H => H.elim
      | any => simp only [vcQ, hi]; exact fun K loc rd H => H.elim
      | loc k f =>
        simp only [locAcc, vcQ, own i k f hi, hi]
        cases opnd σ v <;> (try dsimp only) <;> try exact Wt.no
        rename_i u
        intro K loc rd H
        cases hk : loc k <;> rw [hk] at H <;> try exact False.elim H
        rename_i p
        obtain ⟨c, e⟩ := p
        cases hcs : cellsO (cx.T t).kind.agg u <;> rw [hcs] at H <;> try exact False.elim H
        rename_i cs
        simp only at H
        cases hb : (Nat.beq cs.length (cx.T t).size && (Nat.ble (f + cs.length) c.length && (cs.all leafB && (cx.T t).kind.val))) <;> rw [hb] at H <;> try exact False.elim H
        exact ⟨_, some (splice c f cs, e), H, fun K2 loc2 rd2 _ e2 h => by dsimp only; rw [e2 k true rfl, hk]; simp only [hb]; exact h⟩

end Go.Proofs.YtkhfofnglkekoaaDoor
