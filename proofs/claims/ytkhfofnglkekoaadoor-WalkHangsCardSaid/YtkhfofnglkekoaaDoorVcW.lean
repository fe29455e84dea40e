/- Own verification-condition framework, part W: parts of the heap that lie in a world. Conditions: none. -/
import Derived.Test.YtkhfofnglkekoaaDoorVcV
namespace Go.Proofs.YtkhfofnglkekoaaDoor

theorem Real.set {h : Hp} (r : Real h) (b : Nat) (o : Obj) : Real (h.set b o) := by
  obtain ⟨w, hs⟩ := r
  refine ⟨{ w with heap := (w.heap ++ Array.replicate (b + 1) o).setIfInBounds b o }, fun i x hx => ?_⟩
  by_cases hi : i = b
  · subst hi
    rw [Hp.set_same] at hx
    cases hx
    dsimp only
    rw [Array.getElem?_setIfInBounds_self_of_lt (by rw [Array.size_append, Array.size_replicate]; omega)]
  · rw [Hp.set_ne _ _ hi] at hx
    have := hs i x hx
    have hlt := hs.lt hx
    dsimp only
    rw [Array.getElem?_setIfInBounds_ne (Ne.symm hi), Array.getElem?_append_left hlt]
    exact this

end Go.Proofs.YtkhfofnglkekoaaDoor
