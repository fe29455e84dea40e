/- Own verification-condition framework, part X: what operations on memory leave lies in a world. Conditions: none. -/
import Derived.Test.YtkhfofnglkekoaaDoorVcW
namespace Go.Proofs.YtkhfofnglkekoaaDoor

theorem HSt.real {h : Hp} (r : Real h) {a : Addr} {vs : List Value} {K : Hp → Prop} (H : HSt h a vs K) : HSt h a vs (fun h' => Real h' ∧ K h') := by
  obtain ⟨s, c, e, fr, hb, hl, hf, hk⟩ := H
  exact ⟨s, c, e, fr, hb, hl, hf, r.set _ _, hk⟩

theorem HNew.real {h : Hp} (r : Real h) {o : Obj} {K : Nat → Hp → Prop} (H : HNew h o K) : HNew h o (fun b h' => Real h' ∧ K b h') := fun b hb => ⟨r.set _ _, H b hb⟩

theorem HApp.real {t : TI} {e : TypeId} {h : Hp} (r : Real h) {a : Option Addr} {l c : Nat} {x : Value} {K : Option Addr → Nat → Nat → Hp → Prop} (H : HApp t e h a l c x K) :
    HApp t e h a l c x (fun a l c h' => Real h' ∧ K a l c h') := by
  obtain ⟨n, new, old, h1, h2, h3, h4, h6, h7⟩ := H
  refine ⟨n, new, old, h1, h2, h3, h4, fun hle => ?_, fun hle => ⟨(h7 hle).1, fun cap hc => ((h7 hle).2 cap hc).real r⟩⟩
  have := h6 hle
  cases a with
  | none => exact ⟨this.1, r, this.2⟩
  | some a =>
    dsimp only at this ⊢
    by_cases hz : n * t.size = 0
    · rw [if_pos hz] at this ⊢; exact ⟨r, this⟩
    · rw [if_neg hz] at this ⊢; exact this.real r

theorem HCopy.real {t : TI} {h : Hp} (r : Real h) {a : Option Addr} {l : Nat} {x : Value} {K : Nat → Hp → Prop} (H : HCopy t h a l x K) : HCopy t h a l x (fun n h' => Real h' ∧ K n h') := by
  obtain ⟨n, new, h1, h2, h3⟩ := H
  refine ⟨n, new, h1, h2, ?_⟩
  cases a with
  | none => exact ⟨r, h3⟩
  | some a =>
    dsimp only at h3 ⊢
    by_cases hz : n * t.size = 0
    · rw [if_pos hz] at h3 ⊢; exact ⟨r, h3⟩
    · rw [if_neg hz] at h3 ⊢; exact h3.real r

theorem HClear.real {t : TI} {h : Hp} (r : Real h) {a : Option Addr} {l : Nat} {K : Hp → Prop} (H : HClear t h a l K) : HClear t h a l (fun h' => Real h' ∧ K h') := by
  unfold HClear at H ⊢
  cases a with
  | none => exact ⟨r, H⟩
  | some a =>
    dsimp only at H ⊢
    by_cases hz : l = 0
    · rw [if_pos hz] at H ⊢; exact ⟨r, H⟩
    · rw [if_neg hz] at H ⊢; exact H.real r

theorem HMap.real {k : Kd} {h : Hp} (rl : Real h) {r : Option Nat} {key v : Value} {K : Hp → Prop} (H : HMap k h r key v K) : HMap k h r key v (fun h' => Real h' ∧ K h') := by
  obtain ⟨b, es, clk, h1, h2, h3, h4, h5⟩ := H
  exact ⟨b, es, clk, h1, h2, h3, fun hs => ⟨rl.set _ _, h4 hs⟩, fun hs => ⟨rl.set _ _, h5 hs⟩⟩

theorem HMark.real {h : Hp} (r : Real h) {a : Option Addr} {K : Hp → Prop} (H : HMark h a K) : HMark h a (fun h' => Real h' ∧ K h') := by
  obtain ⟨b, c, e, lo, hi, h1, h2, h3⟩ := H
  exact ⟨b, c, e, lo, hi, h1, h2, r.set _ _, h3⟩

theorem HNext.real {h : Hp} (r : Real h) {b : Nat} {K : Nat → Int → Hp → Prop} {Z : Hp → Prop} (H : HNext h b K Z) : HNext h b (fun p c h' => Real h' ∧ K p c h') (fun h' => Real h' ∧ Z h') := by
  obtain ⟨s, pos, h1, h2, h3⟩ := H
  exact ⟨s, pos, h1, fun hp => ⟨r.set _ _, h2 hp⟩, fun hp => ⟨r, h3 hp⟩⟩

theorem extV_real {e : Nat} {args : List Value} {h : Hp} (r : Real h) {K : Value → Hp → Prop} (H : extV e args fun v => K v h) : extV e args fun v => Real h ∧ K v h := by
  unfold extV at H ⊢
  split at H <;> first
    | exact ⟨r, H⟩
    | exact H.elim

theorem vcE_real {cx : Cx} {o : Oper} {σ : Env} {h : Hp} (r : Real h) {K : Value → Hp → Prop} (H : vcE cx o K σ h) : vcE cx o (fun v h' => Real h' ∧ K v h') σ h := by
  obtain ⟨dst, op, ty, pos, after, guard⟩ := o
  cases op <;> simp only [vcE] at H ⊢ <;> try exact False.elim H
  case call c =>
    obtain ⟨callee, args, ats⟩ := c
    cases callee <;> (try dsimp only at H ⊢) <;> try exact False.elim H
    case value f =>
      cases hv : vals σ args.toList <;> cases he : extN cx f <;> simp only [hv, he] at H ⊢
      · cases ho : opnd σ f <;> rw [ho] at H <;> (try dsimp only at H ⊢) <;> try exact False.elim H
        rename_i v
        cases v <;> (try dsimp only at H ⊢) <;> try exact False.elim H
        rename_i g fi ca
        cases g <;> simp only [fnM] at H ⊢
        rename_i g
        unfold fnsM at *
        cases hg : cx.fns g <;> rw [hg] at H <;> (try dsimp only at H ⊢) <;> try exact False.elim H
        cases dst <;> dsimp only at H ⊢
        · exact FnH.mono (FnH.real H) fun _ _ hh => hh
        · exact FnH.mono (FnH.real H) fun _ _ hh => vEx_mono (fun _ h => ⟨h.1, hh.1, h.2⟩) hh.2
      · unfold extV at *
        split at H <;> first
          | exact False.elim H
          | exact ⟨r, H⟩
    case builtin b =>
      cases b <;> (try dsimp only at H ⊢) <;> try exact False.elim H
      case append =>
        split at H <;> try exact False.elim H
        split at H <;> try exact False.elim H
        split at H <;> first
          | exact False.elim H
          | exact H.real r
      case copy =>
        split at H <;> try exact False.elim H
        split at H <;> try exact False.elim H
        split at H <;> first
          | exact False.elim H
          | exact H.real r
      case clear =>
        split at H <;> try exact False.elim H
        split at H <;> try exact False.elim H
        split at H <;> first
          | exact False.elim H
          | exact H.real r
  case box e x =>
    split at H <;> try exact False.elim H
    split at H <;> first
      | exact False.elim H
      | exact H.real r
  case alloc e =>
    cases hg : (cx.T e).kind.val <;> rw [hg] at H <;> (try dsimp only at H ⊢) <;> first
      | exact False.elim H
      | exact H.real r
  case buildSlice =>
    split at H <;> try exact False.elim H
    split at H <;> first
      | exact False.elim H
      | exact H.real r
  case store =>
    split at H <;> try exact False.elim H
    split at H <;> try exact False.elim H
    split at H <;> first
      | exact False.elim H
      | exact H.real r
  case makeSlice =>
    split at H <;> try exact False.elim H
    obtain ⟨h1, h2, h3, h4, H⟩ := H
    exact ⟨h1, h2, h3, h4, H.real r⟩
  case makeMap t r =>
    cases r with
    | none => exact HNew.real r H
    | some r => exact H
  case mapUpdate =>
    split at H <;> try exact False.elim H
    split at H <;> first
      | exact False.elim H
      | exact H.real r
  case convert =>
    split at H <;> try exact False.elim H
    · split at H <;> try exact False.elim H
      split at H <;> first
        | exact False.elim H
        | exact fun cap hc => (H cap hc).real r
    · split at H <;> try exact False.elim H
      split at H <;> first
        | exact False.elim H
        | exact H.real r
  case range =>
    split at H <;> first
      | exact False.elim H
      | exact H.real r
  case next =>
    split at H <;> first
      | exact False.elim H
      | exact H.real r

end Go.Proofs.YtkhfofnglkekoaaDoor
