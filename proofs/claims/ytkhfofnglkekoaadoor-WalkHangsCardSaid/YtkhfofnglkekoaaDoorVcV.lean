/- Own verification-condition framework, part V: an operation depends on its operands alone. Conditions: none. -/
import Derived.Test.YtkhfofnglkekoaaDoorVcU
namespace Go.Proofs.YtkhfofnglkekoaaDoor

theorem vals_congr {σ τ : Env} : ∀ (l : List Operand), (∀ x ∈ l, opnd σ x = opnd τ x) → vals σ l = vals τ l
  | [], _ => rfl
  | x :: r, h => by
    unfold vals
    rw [h x (by simp), vals_congr r fun y hy => h y (List.mem_cons_of_mem _ hy)]

theorem parts_congr {σ τ : Env} : ∀ (l : List (Nat × Operand)), (∀ x ∈ l.map (·.2), opnd σ x = opnd τ x) → parts σ l = parts τ l
  | [], _ => rfl
  | (i, x) :: r, h => by
    unfold parts
    rw [h x (by simp), parts_congr r fun y hy => h y (by rw [List.map_cons]; exact List.mem_cons_of_mem _ hy)]

theorem vcE_congr {cx : Cx} {o : Oper} {σ τ : Env} {h : Hp} {K : Value → Hp → Prop} (e : ∀ x ∈ o.op.operands, opnd σ x = opnd τ x) : vcE cx o K σ h = vcE cx o K τ h := by
  obtain ⟨dst, op, ty, pos, after, guard⟩ := o
  cases op <;> simp only [Op.operands] at e <;> simp only [vcE]
  case call c =>
    have ha : vals σ c.args.toList = vals τ c.args.toList := vals_congr _ fun x hx => e x (by simp [Call.operands]; exact .inr (by simpa using hx))
    rw [ha]
    cases hc : c.callee with
    | value f =>
      have hf : opnd σ f = opnd τ f := e f (by simp [Call.operands, hc])
      simp only [hf]
    | invoke r m => rfl
    | builtin b => cases b <;> rfl
  case buildSlice t n ps => rw [parts_congr ps.toList fun x hx => e x (by simpa using hx)]
  all_goals (first | rfl | (simp_all; done))

theorem vcQ_congr {cx : Cx} {o : Oper} {σ τ : Env} {K : SV → Loc → Prop} {loc : Loc} {rd : (Hp → Prop) → Prop} (e : ∀ x ∈ o.op.operands, opnd σ x = opnd τ x)
    (ea : isAlloc o = true → ∀ d, o.dst = some d → (cx.ow.all fun p => !Nat.beq p.2 d || notLoc (σ p.1)) = (cx.ow.all fun p => !Nat.beq p.2 d || notLoc (τ p.1))) : vcQ cx o K σ loc rd = vcQ cx o K τ loc rd := by
  obtain ⟨dst, op, ty, pos, after, guard⟩ := o
  cases op <;> simp only [Op.operands] at e <;> simp only [vcQ]
  case call c =>
    have ha : vals σ c.args.toList = vals τ c.args.toList := vals_congr _ fun x hx => e x (by simp [Call.operands]; exact .inr (by simpa using hx))
    rw [ha]
  case build t ps => rw [parts_congr ps.toList fun x hx => e x (by simpa using hx)]
  case makeFunc f fi ca =>
    rw [vals_congr fi.toList fun x hx => e x (by simp at hx; simp [hx]), vals_congr ca.toList fun x hx => e x (by simp at hx; simp [hx])]
  case alloc t => cases dst with
    | none => rfl
    | some d => dsimp only; rw [ea rfl d rfl]
  case box t x => cases dst with
    | none => rfl
    | some d => rw [e x (by simp)]; cases opnd τ x <;> (try dsimp only) <;> rw [ea rfl d rfl]
  case slice t x lo hi mx => cases lo <;> cases hi <;> cases mx <;> simp_all
  all_goals (first | rfl | (simp_all; done))

end Go.Proofs.YtkhfofnglkekoaaDoor
