/- Own verification-condition framework, part L: all operations on memory. Conditions: none. -/
import Derived.Test.YtkhfofnglkekoaaDoorVcK
namespace Go.Proofs.YtkhfofnglkekoaaDoor

/-- EVERY OPERATION ON MEMORY. -/
theorem vcE_run {cx : Cx} {adr : Nat → Nat} {ρ : Operand → Value} {σ : Env} {h : Hp} {K : Value → Hp → Prop} {o : Oper} (cok : CxOk cx) (hd : o.dst = none → ∀ u v h', K u h' → K v h')
    (hc : ∀ x, tmOk adr (opnd σ x) (ρ x)) (H : vcE cx o K σ h) : wpH cx.P (execOp ρ o) (EK cx.P K) h := by
  have tok := cok.tok
  obtain ⟨dst, op, ty, pos, after, guard⟩ := o
  cases op <;> try exact False.elim H
  case call c =>
    obtain ⟨callee, args, ats⟩ := c
    cases callee <;> try exact False.elim H
    case value f => exact e_call cok hd hc H
    case builtin b =>
      cases b <;> try exact False.elim H
      case append => exact e_append tok hc H
      case copy => exact e_copy tok hc H
      case clear => exact e_clear tok hc H
  case box e x => exact e_box hc H
  case alloc e => exact e_alloc tok H
  case buildSlice => exact e_buildSlice tok hc H
  case store => exact e_store tok hc H
  case makeSlice => exact e_makeSlice tok hc H
  case makeMap => exact e_makeMap H
  case mapUpdate => exact e_mapUpdate tok hc H
  case convert => exact e_convert tok hc H
  case range => exact e_range tok hc H
  case next => exact e_next hc H

end Go.Proofs.YtkhfofnglkekoaaDoor
