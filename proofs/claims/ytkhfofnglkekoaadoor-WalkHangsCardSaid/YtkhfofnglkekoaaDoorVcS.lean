/- Own verification-condition framework, part S: one operation runs. Conditions: none. -/
import Derived.Test.YtkhfofnglkekoaaDoorVcR
namespace Go.Proofs.YtkhfofnglkekoaaDoor

def aftS (m : Option (Hp → Prop)) (h : Hp) : Prop := match m with | none => True | some S => S h

theorem rdM_at {m : Option (Hp → Prop)} {h : Hp} (hs : aftS m h) {φ : Hp → Prop} (H : rdM m h φ) : φ h := by
  cases m with
  | none => exact H
  | some S => exact H h hs

theorem aft_at {m : Option (Hp → Prop)} {h : Hp} {F : Prop} (H : aft m h F) : aftS m h ∧ F := by
  cases m with
  | none => exact ⟨trivial, H⟩
  | some S => exact H

/-- What stays: temporaries, and what is in memory. -/
structure Kp (W S : Nat → Bool) (loc : Loc) (adr : Nat → Nat) (h : Hp) (a : Act) (w : World) (loc' : Loc) (adr' : Nat → Nat) (h' : Hp) (a' : Act) (w' : World) : Prop where
  tm : ∀ i, W i = false → a'.tmps.getD i undef = a.tmps.getD i undef
  mem : KpM W S loc adr h w loc' adr' h' w'

theorem Kp.refl {W S : Nat → Bool} {loc : Loc} {adr : Nat → Nat} {h : Hp} {a : Act} {w : World} : Kp W S loc adr h a w loc adr h a w :=
  ⟨fun _ _ => rfl, ⟨fun _ _ => rfl, fun _ hk => .inl ⟨rfl, hk⟩, Nat.le_refl _, fun _ _ hn _ => ⟨rfl, hn⟩⟩⟩
theorem Kp.trans {W S : Nat → Bool} {loc loc1 loc2 : Loc} {adr adr1 adr2 : Nat → Nat} {h h1 h2 : Hp} {a a1 a2 : Act} {w w1 w2 : World} (x : Kp W S loc adr h a w loc1 adr1 h1 a1 w1) (y : Kp W S loc1 adr1 h1 a1 w1 loc2 adr2 h2 a2 w2) :
    Kp W S loc adr h a w loc2 adr2 h2 a2 w2 :=
  ⟨fun i hi => (y.tm i hi).trans (x.tm i hi), x.mem.trans y.mem⟩
theorem Kp.mono {W S W' S' : Nat → Bool} (hw : ∀ k, W k = true → W' k = true) (hs : ∀ k, S k = true → S' k = true) {loc loc' : Loc} {adr adr' : Nat → Nat} {h h' : Hp} {a a' : Act} {w w' : World} (x : Kp W S loc adr h a w loc' adr' h' a' w') :
    Kp W' S' loc adr h a w loc' adr' h' a' w' :=
  ⟨fun i hi => x.tm i (by cases e : W i with | false => rfl | true => rw [hw i e] at hi; cases hi), x.mem.mono hw hs⟩

theorem getD_put {a : Act} {d : Option Nat} {v : Value} {i : Nat} (h : ¬ d = some i) : (a.put d v).tmps.getD i undef = a.tmps.getD i undef := by
  cases d with
  | none => rfl
  | some d =>
    have : d ≠ i := fun e => h (by rw [e])
    simp [Act.put, Array.getElem?_setIfInBounds_ne this]

theorem Kp.put {o : Oper} {S : Nat → Bool} {loc loc' : Loc} {adr adr' : Nat → Nat} {h h' : Hp} {a : Act} {w w' : World} {v : Value} (m : KpM (fun i => wrO i o) S loc adr h w loc' adr' h' w') :
    Kp (fun i => wrO i o) S loc adr h a w loc' adr' h' (a.put o.dst v) w' := by
  refine ⟨fun i hi => getD_put fun e => ?_, m⟩
  simp [wrO, e] at hi

section
variable {cx : Cx} {w0 : World} {h0 : Hp} {n : Nat} {σ : Env} {loc : Loc} {h : Hp} {adr : Nat → Nat} {a : Act} {w : World}

theorem wp_ran {P : Program} {o : Oper} {v : Value} {w' : World} {K : Act → World → Prop} {Q : Exit → Act → World → Prop} (hr : Ran P o a w v w') (H : K (a.put o.dst v) w') : o.wp P a w K Q := by
  unfold Oper.wp
  rcases hr with hr | ⟨hr, rfl⟩ <;> rw [hr] <;> exact H

/-- ONE OPERATION RUNS. -/
theorem run_op (cok : CxOk cx) {o : Oper} {m : Option (Hp → Prop)} {k : Env → Loc → Hp → Prop} (st : St cx w0 h0 n σ loc h adr a w) (hs : aftS m h) (hd : ∀ d, o.dst = some d → d < n) (H : vcRun cx m o k σ loc h)
    {K : Act → World → Prop} {Q : Exit → Act → World → Prop} (hK : ∀ σ' loc' h' adr' a' w', St cx w0 h0 n σ' loc' h' adr' a' w' → Kp (fun i => wrO i o) (fun i => stO cx i o) loc adr h a w loc' adr' h' a' w' → aftS m h' → k σ' loc' h' → K a' w') : o.wp cx.P a w K Q := by
  unfold vcRun at H
  cases he : effB cx o with
  | false =>
    rw [he] at H
    dsimp only at H
    cases hl : locOp σ o with
    | true =>
      obtain ⟨sv, loc', adr', v, w', hk, hr, st', ht, kp⟩ := vcQ_loc cok hl he st H
      exact wp_ran hr (hK _ _ _ _ _ _ (st'.put hd ht) (Kp.put kp) hs hk)
    | false =>
      obtain ⟨sv, v, hk, ht, hw⟩ := vcQ_run cok hl (fun φ hφ => rdM_at hs hφ) st.hc H
      obtain ⟨x, w', h', hr, hf, rfl, rfl⟩ := wpH_sound _ hw st.fr.sub
      exact wp_ran (.inl hr) (hK _ _ _ _ _ _ ((st.step hf).put hd ht) (Kp.put (.fr hf)) hs hk)
  | true =>
    rw [he] at H
    dsimp only at H
    have hw := vcE_run cok (fun hn u v h' hu => by rw [hn] at hu ⊢; exact hu) st.hc H
    obtain ⟨x, w', h', hr, hf, hx⟩ := wpH_sound _ hw st.fr.sub
    have st' := st.step hf
    unfold Oper.wp
    rw [hr]
    cases x <;> try exact False.elim hx
    case value v =>
      obtain ⟨h1, h2⟩ := aft_at hx
      exact hK _ _ _ _ _ _ (st'.put hd (x := .val v) rfl) (Kp.put (.fr hf)) h1 h2
    case skip =>
      obtain ⟨h1, h2⟩ := aft_at hx
      exact hK _ _ _ _ _ _ (st'.put hd (x := .val undef) rfl) (Kp.put (.fr hf)) h1 h2
    case enter f args =>
      refine Calls.mono (hx w' st'.fr.sub) ?_
      rintro e w2 ⟨v, h2, rfl, f2, hh⟩
      obtain ⟨h1, h3⟩ := aft_at hh
      exact hK _ _ _ _ _ _ ((st'.step f2).put hd (x := .val v) rfl) (Kp.put (.fr (hf.trans f2))) h1 h3
end

end Go.Proofs.YtkhfofnglkekoaaDoor
