/- Own verification-condition framework, part U: operations on memory have a result. Conditions: none. -/
import Derived.Test.YtkhfofnglkekoaaDoorVcT
namespace Go.Proofs.YtkhfofnglkekoaaDoor

def rhoOf (σ : Env) (x : Operand) : Value := match opnd σ x with | .val v => v | .loc _ o => .pointer (some ⟨0, o, none⟩) | .any => undef

theorem rhoOf_ok (σ : Env) (x : Operand) : tmOk (fun _ => 0) (opnd σ x) (rhoOf σ x) := by
  unfold rhoOf
  cases opnd σ x <;> first
    | trivial
    | rfl

theorem vcE_some {cx : Cx} {σ : Env} {h : Hp} {K : Value → Hp → Prop} {o : Oper} (cok : CxOk cx) (hr : Real h) (H : vcE cx o K σ h) : ∃ v h', K v h' := by
  have H' : vcE cx o (fun _ h' => ∃ v, K v h') σ h := vcE_mono (fun v _ hk => ⟨v, hk⟩) H
  have hw := vcE_run cok (fun _ _ _ _ hu => hu) (rhoOf_ok σ) H'
  obtain ⟨w, hs⟩ := hr
  obtain ⟨x, w', h', _, hf, hx⟩ := wpH_sound _ hw hs
  cases x <;> try exact False.elim hx
  case value v => obtain ⟨v, hk⟩ := hx; exact ⟨v, _, hk⟩
  case skip => obtain ⟨v, hk⟩ := hx; exact ⟨v, _, hk⟩
  case enter f args =>
    obtain ⟨_, h2, ⟨v, hk⟩, _⟩ := FnH.some hx ⟨w', hf.sub⟩
    exact ⟨v, h2, hk⟩

end Go.Proofs.YtkhfofnglkekoaaDoor
