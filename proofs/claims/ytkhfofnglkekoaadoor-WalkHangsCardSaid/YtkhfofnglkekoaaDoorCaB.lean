/- What arguments that were read are made of: cells, by their types. Conditions: none. -/
import Derived.Test.YtkhfofnglkekoaaDoorCaA
namespace Go.Proofs.YtkhfofnglkekoaaDoor
open Go.ChangeShapes Go.WideShapes Go.ChangeAt Go.RowKit

section
variable {H : Type} {enc : TypeId × Value → H} {P : Program} {w : World} {base : Nat} {sp : Nat → Bool} {held : Bool}

/-- Cells that read by these types, one behind the other. -/
def Lf (enc : TypeId × Value → H) (P : Program) (w : World) (base : Nat) (sp : Nat → Bool) (held : Bool) : List TypeId → List Value → Prop
  | [], cs => cs = []
  | t :: ts, cs => ∃ p r m x, cs = p ++ r ∧ DataW.trod enc P w base sp held m t p = some x ∧ Lf enc P w base sp held ts r

theorem Lf.append : ∀ {ts us : List TypeId} {a b : List Value}, Lf enc P w base sp held ts a → Lf enc P w base sp held us b → Lf enc P w base sp held (ts ++ us) (a ++ b)
  | [], _, _, _, ha, hb => by
    have ha : _ = [] := ha
    subst ha
    exact hb
  | t :: ts, us, a, b, ⟨p, r, m, x, e, h1, h2⟩, hb => ⟨p, r ++ b, m, x, by rw [e, List.append_assoc], h1, Lf.append h2 hb⟩

/-- Types of one cell each, of which a type is made. -/
def flatT (P : Program) : Nat → TypeId → List TypeId
  | 0, t => [t]
  | n + 1, t => match P.underlying t with
    | some (.struct fs) => fs.toList.flatMap fun f => flatT P n f.type
    | some (.array k e) => (List.replicate k (flatT P n e)).flatten
    | _ => [t]

theorem lf_fields {m : Nat} {cs : List Value} (g : TypeId → List TypeId) :
    ∀ (fs : List Field) (o : Nat), (∀ f ∈ fs, ∀ p y, DataW.trod enc P w base sp held m f.type p = some y → Lf enc P w base sp held (g f.type) p) → (∀ i f, fs[i]? = some f → f.offset = o + ((fs.take i).map fun f => P.cellsOf f.type).sum ∧ ∃ y, DataW.trod enc P w base sp held m f.type ((cs.drop f.offset).take (P.cellsOf f.type)) = some y) →
      cs.length = o + (fs.map fun f => P.cellsOf f.type).sum → Lf enc P w base sp held (fs.flatMap fun f => g f.type) (cs.drop o)
  | [], o, _, _, hl => by
    simp at hl
    show cs.drop o = []
    rw [← hl]; simp
  | f :: fs, o, hg, hf, hl => by
    obtain ⟨h0, y, hy⟩ := hf 0 f rfl
    simp at h0
    have rest := lf_fields g fs (o + P.cellsOf f.type) (fun f' hf' => hg f' (List.mem_cons_of_mem _ hf')) (fun i f' hi => by
      obtain ⟨h1, h2⟩ := hf (i + 1) f' hi
      refine ⟨?_, h2⟩
      rw [h1, List.take_succ_cons, List.map_cons, List.sum_cons]; omega) (by rw [hl, List.map_cons, List.sum_cons]; omega)
    rw [List.flatMap_cons]
    have e : cs.drop o = (cs.drop o).take (P.cellsOf f.type) ++ cs.drop (o + P.cellsOf f.type) := by
      rw [← List.drop_drop, List.take_append_drop]
    rw [e]
    rw [h0] at hy
    exact Lf.append (hg f (List.mem_cons_self ..) _ _ hy) rest

theorem lf_elems {m : Nat} {cs : List Value} (e : TypeId) (us : List TypeId) (hg : ∀ p y, DataW.trod enc P w base sp held m e p = some y → Lf enc P w base sp held us p) :
    ∀ (k o : Nat), (∀ i, i < k → ∃ y, DataW.trod enc P w base sp held m e ((cs.drop (o + i * P.cellsOf e)).take (P.cellsOf e)) = some y) → cs.length = o + k * P.cellsOf e → Lf enc P w base sp held (List.replicate k us).flatten (cs.drop o)
  | 0, o, _, hl => by
    simp at hl
    show cs.drop o = []
    rw [← hl]; simp
  | k + 1, o, hf, hl => by
    obtain ⟨y, hy⟩ := hf 0 (by omega)
    rw [Nat.zero_mul, Nat.add_zero] at hy
    have rest := lf_elems e us hg k (o + P.cellsOf e) (fun i hi => by
      obtain ⟨z, hz⟩ := hf (i + 1) (by omega)
      refine ⟨z, ?_⟩
      rw [← hz, Nat.add_mul, Nat.one_mul]
      congr 3
      omega) (by rw [hl, Nat.add_mul, Nat.one_mul]; omega)
    rw [List.replicate_succ, List.flatten_cons]
    have e2 : cs.drop o = (cs.drop o).take (P.cellsOf e) ++ cs.drop (o + P.cellsOf e) := by
      rw [← List.drop_drop, List.take_append_drop]
    rw [e2]
    exact Lf.append (hg _ _ hy) rest

theorem lf_flat {T : TypeId → Prop} (K : Kids P T) : ∀ (n m : Nat) (t : TypeId) (cs : List Value) (x : DataW H × List MemPlace), T t → DataW.trod enc P w base sp held m t cs = some x → Lf enc P w base sp held (flatT P n t) cs
  | 0, m, t, cs, x, _, h => ⟨cs, [], m, x, by simp, h, rfl⟩
  | n + 1, m, t, cs, x, hT, h => by
    have one : Lf enc P w base sp held [t] cs := ⟨cs, [], m, x, by simp, h, rfl⟩
    unfold flatT
    split
    · rename_i fs hu
      obtain ⟨xs, q, rfl, _, hl, hx, hf⟩ := DataW.trod_struct hu h
      obtain ⟨k1, k2, k3⟩ := K.struct hT hu
      have := lf_fields (m := q) (cs := cs) (P := P) (enc := enc) (w := w) (base := base) (sp := sp) (held := held) (flatT P n) fs.toList 0 (fun f hf p y hy => lf_flat K n q f.type p y (k1 f hf) hy) (fun i f hi => ⟨by rw [k3 i f hi]; omega, ?_⟩) (by rw [hl, k2]; omega)
      · simpa using this
      · have hi' : fs[i]? = some f := by simpa using hi
        rw [hf i f hi', List.getElem?_eq_getElem (by
          have := (Array.getElem?_eq_some_iff.1 hi').1
          omega)]
        exact ⟨_, rfl⟩
    · rename_i k e hu
      obtain ⟨xs, q, rfl, _, hl, hx, hf⟩ := DataW.trod_array hu h
      obtain ⟨k1, k2⟩ := K.array hT hu
      have := lf_elems (m := q) (cs := cs) (P := P) (enc := enc) (w := w) (base := base) (sp := sp) (held := held) e (flatT P n e) (fun p y hy => lf_flat K n q e p y k1 hy) k 0 (fun i hi => ?_) (by rw [hl, k2]; simp)
      · simpa using this
      · rw [Nat.zero_add, hf i hi, List.getElem?_eq_getElem (by omega)]
        exact ⟨_, rfl⟩
    · exact one

theorem okWide_slice {r : Reach} {b0 : Nat} {t e : TypeId} {v : Value} (ht : P.underlying t = some (.slice e)) (h : Value.okWide P w r b0 t v) : ∃ a l c, v = .slice a l c := by
  unfold Value.okWide at h
  rw [ht] at h
  dsimp only at h
  unfold Cell.okWide at h
  rw [ht] at h
  cases v <;> simp_all [Cell.ok]

/-- A slice that was read: its elements, each in its cells. -/
theorem open_sl {t e : TypeId} {sz n : Nat} {cs : List Value} {x : DataW H × List MemPlace} (ht : P.underlying t = some (.slice e)) (hc : P.cellsOf e = sz) (h : DataW.trod enc P w base (fun _ => true) held n t cs = some x) :
    ∃ (a : Option Addr) (l c : Nat) (css : List (List Value)) (e' : Nat), cs = [.slice a l c] ∧ css.length = l ∧ l ≤ maxLen ∧ (∀ p ∈ css, p.length = sz ∧ ∃ m y, DataW.trod enc P w base (fun _ => true) held m e p = some y) ∧ Sl (allOf w) e' sz a l c css.flatten := by
  rcases Go.Deep.open_slice ht h with ⟨rfl, _⟩ | ⟨a, l, c, m, n, D, Pl, rfl, _, hlc, hmax, hm, _, hx⟩
  · exact ⟨none, 0, 0, [], 0, rfl, rfl, Nat.zero_le _, (fun _ h => by cases h), Sl.nil⟩
  · simp only [if_true] at hm
    subst hm
    rw [hc] at hx
    obtain ⟨V, hV⟩ := Go.Deep.choose_lt (α := List Value) (p := fun i p => w.cells? base (a.add (i * sz)) sz = some p ∧ DataW.trod enc P w base (fun _ => true) held n e p = some (D i, Pl i)) hx
    have hlen : ∀ i, i < m → (V i).length = sz := fun i hi => (World.cells?_some (hV i hi).1).2.1
    have hfl : ∀ k, k ≤ m → (((List.range k).map V).flatten).length = k * sz := by
      intro k
      induction k with
      | zero => intro _; simp
      | succ k ih =>
        intro hk
        rw [List.range_succ, List.map_append, List.flatten_append, List.length_append, ih (by omega), Nat.add_mul]
        simp [hlen k (by omega)]
    have hget : ∀ k, k ≤ m → ∀ i, i < k → ∀ j, j < sz → (((List.range k).map V).flatten)[i * sz + j]? = (V i)[j]? := by
      intro k
      induction k with
      | zero => intro _ i hi; omega
      | succ k ih =>
        intro hk i hi j hj
        have hp := hfl k (by omega)
        rw [List.range_succ, List.map_append, List.flatten_append]
        have hle : i * sz + j < k * sz ∨ i = k := by
          rcases Nat.lt_or_ge i k with h | h
          · left
            have : (i + 1) * sz ≤ k * sz := Nat.mul_le_mul_right sz h
            rw [Nat.add_mul, Nat.one_mul] at this
            omega
          · right; omega
        rcases hle with h | rfl
        · rw [List.getElem?_append_left (by omega)]
          refine ih (by omega) i ?_ j hj
          rcases Nat.lt_or_ge i k with h' | h'
          · exact h'
          · have : k * sz ≤ i * sz := Nat.mul_le_mul_right sz h'
            omega
        · rw [List.getElem?_append_right (by omega), hp]
          simp
    refine ⟨some a, l, m, (List.range l).map V, (w.shape? a.block).elim 0 (fun p => p.1), rfl, by simp, Nat.le_trans hlc hmax, fun p hp => ?_, ?_⟩
    · obtain ⟨i, hi, rfl⟩ := List.mem_map.1 hp
      have hi : i < m := by have := List.mem_range.1 hi; omega
      exact ⟨hlen i hi, n, _, (hV i hi).2⟩
    · refine ⟨hfl l hlc, hlc, ?_⟩
      by_cases hz : l * sz = 0
      · exact .inl hz
      · have hl0 : 0 < l := Nat.pos_of_ne_zero fun h => hz (by rw [h, Nat.zero_mul])
        have hs0 : 0 < sz := Nat.pos_of_ne_zero fun h => hz (by rw [h, Nat.mul_zero])
        have cell : ∀ i, i < m → ∀ j, j < sz → w.cell? ((a.add (i * sz)).add j) = (V i)[j]? := fun i hi j hj => (World.cells?_some (hV i hi).1).2.2 j hj
        have c0 := cell 0 (by omega) 0 hs0
        rw [List.getElem?_eq_getElem (by rw [hlen 0 (by omega)]; omega)] at c0
        obtain ⟨b, o, s⟩ := a
        have hs : s = none := by
          cases s with
          | none => rfl
          | some q =>
            exfalso
            unfold World.cell? at c0
            have e1 : ((Addr.add (⟨b, o, some q⟩ : Addr) (0 * sz)).add 0) = ⟨b, o, some q⟩ := by simp [Addr.add]
            rw [e1] at c0
            simp at c0
            split at c0 <;> simp at c0
        subst hs
        have adr : ∀ i j, (Addr.add (⟨b, o, none⟩ : Addr) (i * sz)).add j = ⟨b, o + i * sz + j, none⟩ := fun i j => by rw [add_at, add_at]
        rw [adr] at c0
        unfold World.cell? at c0
        dsimp only at c0
        cases hb : w.heap[b]? with
        | none => rw [hb] at c0; cases c0
        | some ob =>
          rw [hb] at c0
          cases ob with
          | cells q e' fr =>
            refine .inr ⟨b, o, q, fr, rfl, ?_, fun i hi => ?_⟩
            · show w.heap[b]? = _
              rw [hb]
              simp [World.shape?, hb]
            · rw [hfl l hlc] at hi
              have hd : i / sz < l := Nat.div_lt_of_lt_mul (by rw [Nat.mul_comm]; exact hi)
              have hj : i % sz < sz := Nat.mod_lt _ hs0
              have c1 := cell (i / sz) (by omega) (i % sz) hj
              rw [adr] at c1
              have e1 : i / sz * sz + i % sz = i := by rw [Nat.mul_comm]; exact Nat.div_add_mod i sz
              have g1 := hget l hlc (i / sz) hd (i % sz) hj
              rw [e1] at g1
              rw [g1, ← c1]
              unfold World.cell?
              rw [hb]
              simp [Nat.add_assoc, e1]
          | map es clk => cases c0
          | _ => cases c0
end

end Go.Proofs.YtkhfofnglkekoaaDoor
