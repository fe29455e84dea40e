/- Own verification-condition framework, part H: all quiet operations; the state of a call, symbolic and true. Conditions: none. -/
import Derived.Test.YtkhfofnglkekoaaDoorVcG
namespace Go.Proofs.YtkhfofnglkekoaaDoor

section
variable {cx : Cx} {adr : Nat → Nat} {ρ : Operand → Value} {σ : Env} {h : Hp} {K : SV → Loc → Prop} {loc : Loc} {rd : (Hp → Prop) → Prop}
  {dst : Option Tmp} {ty : TypeId} {pos : String} {after : Array Edge} {guard : Option (Nat × Bool)}

theorem wpH_builtin (hc : ∀ x, tmOk adr (opnd σ x) (ρ x)) {b : Builtin} {args : Array Operand} {ats : Array TypeId} {vs : List Value} (hv : vals σ args.toList = some vs) {K' : Next → Hp → Prop}
    (H : ∀ consts, wpH cx.P (builtin b ats ty consts vs.toArray) K' h) : wpH cx.P (execOp ρ ⟨dst, .call ⟨.builtin b, args, ats⟩, ty, pos, after, guard⟩) K' h := by
  have e : args.map ρ = vs.toArray := by apply Array.ext'; rw [Array.toList_map]; exact vals_ok hc _ _ hv
  simp only [execOp, resolve, e]
  exact wpH_b (wpH_p (H _))

theorem arg0 {ats : Array TypeId} {kd : Kd} (h : argKd cx.T ats.toList = kd) (hn : kd.val = true) : ∃ t, ats[0]? = some t ∧ (cx.T t).kind = kd := by
  cases hl : ats.toList with
  | nil => rw [hl] at h; simp [argKd] at h; subst h; simp [Kd.val] at hn
  | cons t r =>
    rw [hl] at h
    refine ⟨t, ?_, h⟩
    have : ats[0]? = ats.toList[0]? := by simp
    rw [this, hl]; rfl

theorem q_call (tok : TOk cx.P cx.T) (hrd : ∀ φ, rd φ → φ h) (hc : ∀ x, tmOk adr (opnd σ x) (ρ x)) {c : Call} (H : vcQ cx ⟨dst, .call c, ty, pos, after, guard⟩ K σ loc rd) :
    QRun cx.P adr ρ ⟨dst, .call c, ty, pos, after, guard⟩ h K loc := by
  obtain ⟨cal, args, ats⟩ := c
  simp only [vcQ] at H
  split at H <;> try exact False.elim H
  · rename_i s _ hv
    cases hk : argKd cx.T ats.toList <;> rw [hk] at H <;> try exact False.elim H
    obtain ⟨t, ht, hkt⟩ := arg0 hk rfl
    refine QRun.mk' H (wpH_builtin hc hv fun consts => wpH_v ?_)
    unfold Builtin.len_
    simp only [ht, List.getElem?_toArray, List.getElem?_cons_zero]
    exact wpH_b (wpH_under (tok.str hkt) ⟨rfl, rfl⟩)
  · rename_i a l k _ hv
    cases hk : argKd cx.T ats.toList <;> rw [hk] at H <;> try exact False.elim H
    obtain ⟨t, ht, hkt⟩ := arg0 hk rfl
    refine QRun.mk' H (wpH_builtin hc hv fun consts => wpH_v ?_)
    unfold Builtin.len_
    simp only [ht, List.getElem?_toArray, List.getElem?_cons_zero]
    exact wpH_b (wpH_under (tok.slice hkt) ⟨rfl, rfl⟩)
  · rename_i r hv
    cases hk : argKd cx.T ats.toList <;> rw [hk] at H <;> try exact False.elim H
    obtain ⟨t, ht, hkt⟩ := arg0 hk rfl
    obtain ⟨es, hes, H⟩ := H
    have hes := hrd _ hes
    refine QRun.mk' H (wpH_builtin hc hv fun consts => wpH_v ?_)
    unfold Builtin.len_
    simp only [ht, List.getElem?_toArray, List.getElem?_cons_zero]
    refine wpH_b (wpH_under (tok.map hkt) ?_)
    unfold MapIs at hes
    cases r with
    | none => subst hes; exact ⟨rfl, rfl⟩
    | some b =>
      obtain ⟨clk, hb⟩ := hes
      refine wpH_b ?_
      refine ⟨_, hb, trivial, ?_⟩
      exact ⟨by simp [goInt], rfl⟩
  · rename_i a l k _ hv
    cases hk : argKd cx.T ats.toList <;> rw [hk] at H <;> try exact False.elim H
    obtain ⟨t, ht, hkt⟩ := arg0 hk rfl
    refine QRun.mk' H (wpH_builtin hc hv fun consts => wpH_v ?_)
    unfold Builtin.cap_
    simp only [ht, List.getElem?_toArray, List.getElem?_cons_zero]
    exact wpH_b (wpH_under (tok.slice hkt) ⟨rfl, rfl⟩)
  · rename_i k x r hv
    cases hf : foldInt imax k x r <;> rw [hf] at H <;> try exact False.elim H
    refine QRun.mk' H (wpH_builtin hc hv fun consts => wpH_v ?_)
    unfold Builtin.max_
    exact wpH_mono _ (by rintro u h' ⟨rfl, rfl⟩; exact ⟨rfl, rfl⟩) (foldM_int (g := Builtin.max2) (f := imax) (k := k) (fun _ _ _ => rfl) _ _ _ hf)
  · rename_i k x r hv
    cases hf : foldInt imin k x r <;> rw [hf] at H <;> try exact False.elim H
    refine QRun.mk' H (wpH_builtin hc hv fun consts => wpH_v ?_)
    unfold Builtin.min_
    exact wpH_mono _ (by rintro u h' ⟨rfl, rfl⟩; exact ⟨rfl, rfl⟩) (foldM_int (g := Builtin.min2) (f := imin) (k := k) (fun _ _ _ => rfl) _ _ _ hf)
end

/-- EVERY QUIET OPERATION THAT TOUCHES NO LOCAL. -/
theorem vcQ_run {cx : Cx} {adr : Nat → Nat} {ρ : Operand → Value} {σ : Env} {h : Hp} {K : SV → Loc → Prop} {loc : Loc} {rd : (Hp → Prop) → Prop} (cok : CxOk cx) {o : Oper} (hl : locOp σ o = false) (hrd : ∀ φ, rd φ → φ h)
    (hc : ∀ x, tmOk adr (opnd σ x) (ρ x)) (H : vcQ cx o K σ loc rd) : QRun cx.P adr ρ o h K loc := by
  obtain ⟨dst, op, ty, pos, after, guard⟩ := o
  cases op <;> try exact False.elim H
  case move x => exact ⟨_, _, H, hc x, rfl, rfl⟩
  case assign x => exact ⟨_, _, H, hc x, rfl, rfl⟩
  case pick => exact q_pick hc H
  case alloc => simp [locOp] at hl
  case box => simp [locOp] at hl
  case store => simp [locOp] at hl
  case build => exact q_build cok.tok hc H
  case load t x =>
    have hx : ∀ k o, opnd σ x ≠ .loc k o := by
      intro k o e
      simp [locOp, e] at hl
    cases hk : (cx.T t).kind.val with
    | true => exact q_load cok.tok hrd hc hk hx H
    | false =>
      simp only [vcQ] at H
      cases he : opnd σ x with
      | loc k o => exact absurd he (hx k o)
      | any => rw [he] at H; exact False.elim H
      | val v =>
        rw [he] at H
        cases v <;> try exact False.elim H
        rename_i p
        cases p <;> try exact False.elim H
        simp only [hk] at H
  case nilCheck => exact q_nilCheck hc H
  case binOp => exact q_binOp cok hc H
  case unOp => exact q_unOp hc H
  case convert => exact q_convert cok.tok hrd hc H
  case makeFunc => exact q_makeFunc hc H
  case slice => exact q_slice cok.tok hc H
  case fieldAddr => exact q_fieldAddr cok.tok hc H
  case field => exact q_field cok.tok hc H
  case indexAddr => exact q_indexAddr cok.tok hc H
  case index => exact q_index cok.tok hc H
  case lookup => exact q_lookup cok.tok hrd hc H
  case extract => exact q_extract hc H
  case call => exact q_call cok.tok hrd hc H

end Go.Proofs.YtkhfofnglkekoaaDoor
