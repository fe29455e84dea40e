/- Own library, part A: parts of the heap that grow; the frame of a call; rows of cells. Conditions: none. -/
import Derived.Test.YtkhfofnglkekoaaDoorVcZd
namespace Go.Proofs.YtkhfofnglkekoaaDoor

/-- All that was there is there. -/
def Ext (h h' : Hp) : Prop := ∀ b o, h b = some o → h' b = some o

theorem Ext.refl {h : Hp} : Ext h h := fun _ _ e => e
theorem Ext.trans {h1 h2 h3 : Hp} (a : Ext h1 h2) (b : Ext h2 h3) : Ext h1 h3 := fun _ _ e => b _ _ (a _ _ e)
theorem Ext.new {h : Hp} {b : Nat} {o : Obj} (hb : h b = none) : Ext h (h.set b o) := fun i x e => by
  by_cases hi : i = b
  · subst hi; rw [hb] at e; cases e
  · rw [Hp.set_ne _ _ hi]; exact e
theorem Ext.none {h h' : Hp} (e : Ext h h') {b : Nat} (hb : h' b = .none) : h b = .none := by
  cases hx : h b with
  | none => rfl
  | some o => rw [e b o hx] at hb; cases hb
/-- A block that is no part of what was there is turned. -/
theorem Ext.turn {h h' : Hp} {b : Nat} {o : Obj} (e : Ext h h') (hb : h b = .none) : Ext h (h'.set b o) := fun i x hx => by
  by_cases hi : i = b
  · subst hi; rw [hb] at hx; cases hx
  · rw [Hp.set_ne _ _ hi]; exact e _ _ hx

/-- A row of the types given may be turned; all else stays. -/
def mutO (ts : List Nat) : Obj → Bool
  | .cells _ e _ => memN e ts
  | _ => false

def Ke (ts : List Nat) (h h' : Hp) : Prop := ∀ b o, h b = some o → mutO ts o = false → h' b = some o

theorem Ke.refl {ts : List Nat} {h : Hp} : Ke ts h h := fun _ _ e _ => e
theorem Ke.trans {ts : List Nat} {h1 h2 h3 : Hp} (a : Ke ts h1 h2) (b : Ke ts h2 h3) : Ke ts h1 h3 := fun _ _ e m => b _ _ (a _ _ e m) m
theorem Ext.ke {ts : List Nat} {h h' : Hp} (e : Ext h h') : Ke ts h h' := fun _ _ x _ => e _ _ x

/-- The frame of a call. -/
theorem FnH_frame {P : Program} {f : FuncId} {args : Array Value} {h1 h : Hp} {R : Value → Hp → Prop} (s : Ext h1 h) (H : FnH P f args h1 R) :
    FnH P f args h fun v h' => ∃ h1', R v h1' ∧ Ext h1' h' ∧ ∀ b o, h1 b = none → h b = some o → h' b = some o := by
  intro w hs
  refine (H w (fun b o hb => hs b o (s b o hb))).mono ?_
  rintro e w' ⟨v, h1', rfl, fr, hr⟩
  have hdis : ∀ b o, h b = some o → h1 b = none → h1' b = none ∧ w'.heap[b]? = some o := by
    intro b o hb hn
    have hlt := hs.lt hb
    obtain ⟨e1, e2⟩ := fr.keep b hlt hn
    exact ⟨e2, e1.trans (hs b o hb)⟩
  refine ⟨v, fun b => match h1' b with | some o => some o | none => (match h1 b with | none => h b | some _ => none), rfl, ⟨fr.os, fr.tape, fr.output, fr.size, fun b hb hn => ?_, fun b o hb => ?_⟩, h1', hr, fun b o hb => ?_, fun b o hn hb => ?_⟩
  · have hn1 : h1 b = none := s.none hn
    obtain ⟨e1, e2⟩ := fr.keep b hb hn1
    exact ⟨e1, by simp only [e2, hn1, hn]⟩
  · cases hx : h1' b with
    | some o' =>
      simp only [hx] at hb
      cases hb
      exact fr.sub b o hx
    | none =>
      simp only [hx] at hb
      cases hy : h1 b with
      | none => simp only [hy] at hb; exact (hdis b o hb hy).2
      | some o' => simp only [hy] at hb; cases hb
  · simp only [hb]
  · obtain ⟨e1, e2⟩ := hdis b o hb hn
    simp only [e1, hn, hb]

/-! Rows of cells. -/

/-- A slice whose first cells are these (values of 'sz' cells each; 'e' the array's type of element). -/
def Sl (h : Hp) (e sz : Nat) (a : Option Addr) (l c : Nat) (vs : List Value) : Prop :=
  vs.length = l * sz ∧ l ≤ c ∧ (l * sz = 0 ∨ ∃ b o cs fr, a = some ⟨b, o, none⟩ ∧ h b = some (.cells cs e fr) ∧ ∀ i, i < vs.length → cs[o + i]? = vs[i]?)

theorem Sl.len {h : Hp} {e sz : Nat} {a : Option Addr} {l c : Nat} {vs : List Value} (s : Sl h e sz a l c vs) : vs.length = l * sz := s.1

theorem Sl.ke {ts : List Nat} {h h' : Hp} {e sz : Nat} {a : Option Addr} {l c : Nat} {vs : List Value} (k : Ke ts h h') (m : memN e ts = false) (s : Sl h e sz a l c vs) : Sl h' e sz a l c vs := by
  obtain ⟨h1, h2, h3⟩ := s
  refine ⟨h1, h2, h3.imp id ?_⟩
  rintro ⟨b, o, cs, fr, e1, e2, e3⟩
  exact ⟨b, o, cs, fr, e1, k _ _ e2 m, e3⟩

theorem Sl.ext {h h' : Hp} {e sz : Nat} {a : Option Addr} {l c : Nat} {vs : List Value} (k : Ext h h') (s : Sl h e sz a l c vs) : Sl h' e sz a l c vs := by
  obtain ⟨h1, h2, h3⟩ := s
  refine ⟨h1, h2, h3.imp id ?_⟩
  rintro ⟨b, o, cs, fr, e1, e2, e3⟩
  exact ⟨b, o, cs, fr, e1, k _ _ e2, e3⟩

theorem Sl.nil {h : Hp} {e sz : Nat} : Sl h e sz none 0 0 [] := ⟨by simp, Nat.le_refl _, .inl (by simp)⟩

theorem Sl.src {h : Hp} {e sz : Nat} {a : Option Addr} {l c : Nat} {vs : List Value} (s : Sl h e sz a l c vs) : SrcIs h sz (.slice a l c) l vs := by
  obtain ⟨h1, h2, h3⟩ := s
  refine ⟨rfl, h1, ?_⟩
  rcases h3 with h3 | ⟨b, o, cs, fr, rfl, e2, e3⟩
  · cases a with
    | none => exact h3
    | some a => exact .inl h3
  · exact .inr ⟨rfl, cs, e, fr, e2, e3⟩

theorem add_at (b o n : Nat) : Addr.add ⟨b, o, none⟩ n = ⟨b, o + n, none⟩ := by
  unfold Addr.add
  split
  · rename_i h; simp [h]
  · rfl

/-- The cells of the i-th value of a slice. -/
theorem Sl.at {h : Hp} {e sz : Nat} {a : Option Addr} {l c : Nat} {vs : List Value} (s : Sl h e sz a l c vs) {i : Nat} (hi : i < l) (hz : sz ≠ 0) : ∃ p, a = some p ∧ At h (p.add (i * sz)) ((vs.drop (i * sz)).take sz) := by
  obtain ⟨h1, h2, h3⟩ := s
  have hle : i * sz + sz ≤ l * sz := by
    have : (i + 1) * sz ≤ l * sz := Nat.mul_le_mul_right sz hi
    rw [Nat.add_mul, Nat.one_mul] at this
    exact this
  rcases h3 with h3 | ⟨b, o, cs, fr, rfl, e2, e3⟩
  · omega
  · refine ⟨_, rfl, ?_⟩
    rw [add_at]
    refine ⟨rfl, cs, e, fr, e2, fun k hk => ?_⟩
    simp only [List.length_take, List.length_drop] at hk
    have := e3 (i * sz + k) (by omega)
    rw [Nat.add_assoc, this, List.getElem?_take_of_lt (by omega), List.getElem?_drop]

end Go.Proofs.YtkhfofnglkekoaaDoor
