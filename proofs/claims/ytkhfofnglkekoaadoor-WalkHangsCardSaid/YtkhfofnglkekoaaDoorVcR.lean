/- Own verification-condition framework, part R: monotony of operations on memory. Conditions: none. -/
import Derived.Test.YtkhfofnglkekoaaDoorVcQ
namespace Go.Proofs.YtkhfofnglkekoaaDoor

theorem HSt.mono {h : Hp} {a : Addr} {vs : List Value} {K K' : Hp → Prop} (H : HSt h a vs K) (hk : ∀ h, K h → K' h) : HSt h a vs K' := by
  obtain ⟨h1, c, e, fr, h2, h3, h4, H⟩ := H
  exact ⟨h1, c, e, fr, h2, h3, h4, hk _ H⟩

theorem HNew.mono {h : Hp} {o : Obj} {K K' : Nat → Hp → Prop} (H : HNew h o K) (hk : ∀ b h, K b h → K' b h) : HNew h o K' := fun b hb => hk _ _ (H b hb)

theorem HApp.mono {t : TI} {e : TypeId} {h : Hp} {a : Option Addr} {l c : Nat} {x : Value} {K K' : Option Addr → Nat → Nat → Hp → Prop} (H : HApp t e h a l c x K) (hk : ∀ a l c h, K a l c h → K' a l c h) : HApp t e h a l c x K' := by
  obtain ⟨n, new, old, h1, h2, h3, h4, H1, H2⟩ := H
  refine ⟨n, new, old, h1, h2, h3, h4, fun hle => ?_, fun hle => ⟨(H2 hle).1, fun cap hc => ((H2 hle).2 cap hc).mono fun _ _ hh => hk _ _ _ _ hh⟩⟩
  have H1 := H1 hle
  cases a with
  | none => exact ⟨H1.1, hk _ _ _ _ H1.2⟩
  | some a =>
    dsimp only at H1 ⊢
    split at H1
    · rename_i hz; rw [if_pos hz]; exact hk _ _ _ _ H1
    · rename_i hz; rw [if_neg hz]; exact H1.mono fun _ hh => hk _ _ _ _ hh

theorem HCopy.mono {t : TI} {h : Hp} {a : Option Addr} {l : Nat} {x : Value} {K K' : Nat → Hp → Prop} (H : HCopy t h a l x K) (hk : ∀ n h, K n h → K' n h) : HCopy t h a l x K' := by
  obtain ⟨n, new, h1, h2, H1⟩ := H
  refine ⟨n, new, h1, h2, ?_⟩
  cases a with
  | none => exact hk _ _ H1
  | some a =>
    dsimp only at H1 ⊢
    split at H1
    · rename_i hz; rw [if_pos hz]; exact hk _ _ H1
    · rename_i hz; rw [if_neg hz]; exact H1.mono fun _ hh => hk _ _ hh

theorem HClear.mono {t : TI} {h : Hp} {a : Option Addr} {l : Nat} {K K' : Hp → Prop} (H : HClear t h a l K) (hk : ∀ h, K h → K' h) : HClear t h a l K' := by
  unfold HClear at *
  cases a with
  | none => exact hk _ H
  | some a =>
    dsimp only at H ⊢
    split at H
    · rename_i hz; rw [if_pos hz]; exact hk _ H
    · rename_i hz; rw [if_neg hz]; exact H.mono hk

theorem HMap.mono {k : Kd} {h : Hp} {r : Option Nat} {key v : Value} {K K' : Hp → Prop} (H : HMap k h r key v K) (hk : ∀ h, K h → K' h) : HMap k h r key v K' := by
  obtain ⟨b, es, clk, h1, h2, h3, H1, H2⟩ := H
  exact ⟨b, es, clk, h1, h2, h3, fun e => hk _ (H1 e), fun e => hk _ (H2 e)⟩

theorem HMark.mono {h : Hp} {a : Option Addr} {K K' : Hp → Prop} (H : HMark h a K) (hk : ∀ h, K h → K' h) : HMark h a K' := by
  obtain ⟨b, c, e, lo, hi, h1, h2, H⟩ := H
  exact ⟨b, c, e, lo, hi, h1, h2, hk _ H⟩

theorem HNext.mono {h : Hp} {b : Nat} {K K' : Nat → Int → Hp → Prop} {Z Z' : Hp → Prop} (H : HNext h b K Z) (hk : ∀ p c h, K p c h → K' p c h) (hz : ∀ h, Z h → Z' h) : HNext h b K' Z' := by
  obtain ⟨s, pos, h1, H1, H2⟩ := H
  exact ⟨s, pos, h1, fun e => hk _ _ _ (H1 e), fun e => hz _ (H2 e)⟩

theorem Sh.ex_mono {s : Sh} {K K' : Value → Prop} (hk : ∀ v, K v → K' v) (H : s.ex K) : s.ex K' := by
  cases s
  case slice => obtain ⟨a, l, c, H⟩ := H; exact ⟨a, l, c, hk _ H⟩
  case fn => obtain ⟨a, l, c, H⟩ := H; exact ⟨a, l, c, hk _ H⟩
  all_goals obtain ⟨n, H⟩ := H; exact ⟨n, hk _ H⟩

theorem exs_mono : ∀ (s : List Sh) {K K' : List Value → Prop}, (∀ v, K v → K' v) → exs s K → exs s K'
  | [], _, _, hk, H => hk _ H
  | _ :: r, _, _, hk, H => Sh.ex_mono (fun _ h => exs_mono r (fun _ h => hk _ h) h) H

theorem vEx1_mono {t : TI} {K K' : Value → Prop} (hk : ∀ v, K v → K' v) (H : vEx1 t K) : vEx1 t K' := by
  unfold vEx1 at *
  cases hg : t.kind.agg <;> rw [hg] at H <;> exact exs_mono _ (fun _ h => hk _ h) H

theorem vExs_mono {T : Nat → TI} : ∀ (l : List TypeId) {K K' : List Value → Prop}, (∀ v, K v → K' v) → vExs T l K → vExs T l K'
  | [], _, _, hk, H => hk _ H
  | _ :: r, _, _, hk, H => vEx1_mono (fun _ h => vExs_mono r (fun _ h => hk _ h) h) H

theorem vEx_mono {T : Nat → TI} {t : TypeId} {K K' : Value → Prop} (hk : ∀ v, K v → K' v) (H : vEx T t K) : vEx T t K' := by
  unfold vEx at *
  cases hg : (T t).kind <;> rw [hg] at H <;> first
    | exact vEx1_mono hk H
    | exact vExs_mono _ (fun _ h => hk _ h) H

theorem vcE_mono {cx : Cx} {o : Oper} {σ : Env} {h : Hp} {K K' : Value → Hp → Prop} (hk : ∀ v h, K v h → K' v h) (H : vcE cx o K σ h) : vcE cx o K' σ h := by
  obtain ⟨dst, op, ty, pos, after, guard⟩ := o
  cases op <;> simp only [vcE] at H ⊢ <;> try exact H
  case call c =>
    obtain ⟨callee, args, ats⟩ := c
    cases callee <;> (try dsimp only at H ⊢) <;> try exact False.elim H
    case value f =>
      cases hv : vals σ args.toList <;> cases he : extN cx f <;> simp only [hv, he] at H ⊢
      · cases ho : opnd σ f <;> rw [ho] at H <;> (try dsimp only at H ⊢) <;> try exact False.elim H
        rename_i v
        cases v <;> (try dsimp only at H ⊢) <;> try exact False.elim H
        rename_i g fi ca
        cases g <;> simp only [fnM] at H ⊢
        rename_i g
        unfold fnsM at *
        cases hg : cx.fns g <;> rw [hg] at H <;> (try dsimp only at H ⊢) <;> try exact False.elim H
        cases dst <;> dsimp only at H ⊢
        · exact FnH.mono H fun _ _ hh => hk _ _ hh
        · exact FnH.mono H fun _ _ hh => vEx_mono (fun _ h => ⟨h.1, hk _ _ h.2⟩) hh
      · unfold extV at *
        split at H <;> first
          | exact False.elim H
          | exact hk _ _ H
    case builtin b =>
      cases b <;> (try dsimp only at H ⊢) <;> try exact False.elim H
      case append =>
        split at H <;> try exact False.elim H
        split at H <;> try exact False.elim H
        split at H <;> first
          | exact False.elim H
          | exact H.mono fun _ _ _ _ hh => hk _ _ hh
      case copy =>
        split at H <;> try exact False.elim H
        split at H <;> try exact False.elim H
        split at H <;> first
          | exact False.elim H
          | exact H.mono fun _ _ hh => hk _ _ hh
      case clear =>
        split at H <;> try exact False.elim H
        split at H <;> try exact False.elim H
        split at H <;> first
          | exact False.elim H
          | exact H.mono fun _ hh => hk _ _ hh
  case box e x =>
    split at H <;> try exact False.elim H
    split at H <;> first
      | exact False.elim H
      | exact H.mono fun _ _ hh => hk _ _ hh
  case alloc e =>
    cases hg : (cx.T e).kind.val <;> rw [hg] at H <;> (try dsimp only at H ⊢) <;> first
      | exact False.elim H
      | exact H.mono fun _ _ hh => hk _ _ hh
  case buildSlice =>
    split at H <;> try exact False.elim H
    split at H <;> first
      | exact False.elim H
      | exact H.mono fun _ _ hh => hk _ _ hh
  case store =>
    split at H <;> try exact False.elim H
    split at H <;> try exact False.elim H
    split at H <;> first
      | exact False.elim H
      | exact H.mono fun _ hh => hk _ _ hh
  case makeSlice =>
    split at H <;> try exact False.elim H
    obtain ⟨h1, h2, h3, h4, H⟩ := H
    exact ⟨h1, h2, h3, h4, H.mono fun _ _ hh => hk _ _ hh⟩
  case makeMap t r =>
    cases r with
    | none => exact HNew.mono H fun _ _ hh => hk _ _ hh
    | some r => exact H
  case mapUpdate =>
    split at H <;> try exact False.elim H
    split at H <;> first
      | exact False.elim H
      | exact H.mono fun _ hh => hk _ _ hh
  case convert =>
    split at H <;> try exact False.elim H
    · split at H <;> try exact False.elim H
      split at H <;> first
        | exact False.elim H
        | exact fun cap hc => (H cap hc).mono fun _ _ hh => hk _ _ hh
    · split at H <;> try exact False.elim H
      split at H <;> first
        | exact False.elim H
        | exact H.mono fun _ hh => hk _ _ hh
  case range =>
    split at H <;> first
      | exact False.elim H
      | exact H.mono fun _ _ hh => hk _ _ hh
  case next =>
    split at H <;> first
      | exact False.elim H
      | exact H.mono (fun _ _ _ hh => hk _ _ hh) fun _ hh => hk _ _ hh

end Go.Proofs.YtkhfofnglkekoaaDoor
