/- Own library, part B: rows that are appended to. Conditions: none. -/
import Derived.Test.YtkhfofnglkekoaaDoorLbA
namespace Go.Proofs.YtkhfofnglkekoaaDoor

theorem splice_get {c vs : List Value} {o : Nat} (h : o + vs.length ≤ c.length) (i : Nat) : (splice c o vs)[i]? = if i < o then c[i]? else if i < o + vs.length then vs[i - o]? else c[i]? := by
  unfold splice
  have h1 : (c.take o).length = o := by simp; omega
  by_cases a : i < o
  · rw [if_pos a, List.append_assoc, List.getElem?_append_left (by omega), List.getElem?_take_of_lt a]
  · rw [if_neg a]
    by_cases b : i < o + vs.length
    · rw [if_pos b, List.getElem?_append_left (by simp; omega), List.getElem?_append_right (by omega), h1]
    · rw [if_neg b, List.getElem?_append_right (by simp; omega), List.getElem?_drop]
      congr 1
      simp
      omega

theorem splice_len {c vs : List Value} {o : Nat} (h : o + vs.length ≤ c.length) : (splice c o vs).length = c.length := by
  unfold splice
  simp
  omega

/-- A slice whose array is no part of h0, and that may be written. -/
def Out (h0 h : Hp) (e sz : Nat) (a : Option Addr) (l c : Nat) (vs : List Value) : Prop :=
  Sl h e sz a l c vs ∧ (c * sz = 0 ∨ ∃ b o cs, a = some ⟨b, o, none⟩ ∧ h0 b = none ∧ h b = some (.cells cs e (0, 0)) ∧ o + c * sz ≤ cs.size)

theorem Out.sl {h0 h : Hp} {e sz : Nat} {a : Option Addr} {l c : Nat} {vs : List Value} (o : Out h0 h e sz a l c vs) : Sl h e sz a l c vs := o.1
theorem Out.nil {h0 h : Hp} {e sz : Nat} : Out h0 h e sz none 0 0 [] := ⟨Sl.nil, .inl (by simp)⟩

/-- All stays but the slice's own array. -/
def Chg (h0 : Hp) (a : Option Addr) (h h' : Hp) : Prop := (∀ b o, h b = some o → (h0 b ≠ none ∨ ∀ p, a = some p → b ≠ p.block) → h' b = some o) ∧ ∀ b, h b ≠ none → h' b ≠ none

theorem Chg.ext {h0 h h' : Hp} {a : Option Addr} (e : Ext h0 h) (c : Chg h0 a h h') : Ext h0 h' := fun b o hb => c.1 b o (e b o hb) (.inl (by rw [hb]; simp))
theorem Ext.chg {h0 h h' : Hp} {a : Option Addr} (e : Ext h h') : Chg h0 a h h' := ⟨fun b o hb _ => e b o hb, fun b hb hn => hb (e.none hn)⟩

/-- The array stays another call's own. -/
theorem Out.ke {h0 h h' : Hp} {ts : List Nat} {e sz : Nat} {a : Option Addr} {l c : Nat} {vs : List Value} (k : Ke ts h h') (m : memN e ts = false) (o : Out h0 h e sz a l c vs) : Out h0 h' e sz a l c vs := by
  refine ⟨o.1.ke k m, o.2.imp id ?_⟩
  rintro ⟨b, f, cs, e1, e2, e3, e4⟩
  exact ⟨b, f, cs, e1, e2, k _ _ e3 m, e4⟩
theorem Out.ext {h0 h h' : Hp} {e sz : Nat} {a : Option Addr} {l c : Nat} {vs : List Value} (k : Ext h h') (o : Out h0 h e sz a l c vs) : Out h0 h' e sz a l c vs := o.ke (ts := []) k.ke rfl

theorem growBy_le (n : Nat) : ∀ r c, Builtin.growBy n r c ≤ max c (2 * n + 200)
  | 0, c => by unfold Builtin.growBy; omega
  | r + 1, c => by
    unfold Builtin.growBy
    split
    · omega
    · have := growBy_le n r (c + (c + 768) / 4)
      omega

theorem nextcap_le {n c : Nat} (h : c < n) : Builtin.nextslicecap n c ≤ 2 * n + 200 := by
  unfold Builtin.nextslicecap
  split
  · omega
  · split
    · omega
    · have := growBy_le n 4 c
      omega

theorem src_len {h : Hp} {sz n : Nat} {x : Value} {new : List Value} (s : SrcIs h sz x n new) : new.length = n * sz := by
  unfold SrcIs at s
  cases x <;> try exact False.elim s
  case slice a l c => exact s.2.1
  case string t =>
    obtain ⟨h1, h2, h3⟩ := s
    rw [h3, h2]
    simp [← h1]

/-- THE BUILTIN APPEND, TO A SLICE OF ONE'S OWN. -/
theorem happ {t : TI} {e : Nat} {h0 h : Hp} {a : Option Addr} {l c : Nat} {x : Value} {n : Nat} {new vs : List Value} {K : Option Addr → Nat → Nat → Hp → Prop} (ex : Ext h0 h) (ho : Out h0 h e t.size a l c vs)
    (hx : SrcIs h t.size x n new) (hl : new.all leafB = true) (hb : t.bytes ≠ 0) (hz : t.zero.length = t.size) (hbd : (2 * (l + n) + 200) * t.bytes ≤ 281474976710656)
    (hK : ∀ a' c' h', Ext h0 h' → Out h0 h' e t.size a' (l + n) c' (vs ++ new) → Chg h0 a h h' → K a' (l + n) c' h') : HApp t e h a l c x K := by
  have hn := src_len hx
  refine ⟨n, new, vs, hx, hl, ho.1.src, hb, fun hle => ?_, fun hle => ⟨?_, fun cap hc b hbn => ?_⟩⟩
  · obtain ⟨⟨s1, s2, s3⟩, o⟩ := ho
    have hln : (l + n) * t.size = l * t.size + n * t.size := Nat.add_mul _ _ _
    have same : n * t.size = 0 → Out h0 h e t.size a (l + n) c (vs ++ new) := by
      intro hz0
      have : new = [] := List.eq_nil_of_length_eq_zero (by rw [hn]; exact hz0)
      subst this
      refine ⟨⟨by simp [s1]; omega, hle, ?_⟩, o⟩
      rw [List.append_nil]
      rcases s3 with s3 | s3
      · exact .inl (by omega)
      · exact .inr s3
    cases a with
    | none =>
      have hz0 : n * t.size = 0 := by
        rcases o with o | ⟨b, f, cs, e1, _⟩
        · have : (l + n) * t.size ≤ c * t.size := Nat.mul_le_mul_right _ hle
          omega
        · cases e1
      exact ⟨hz0, hK _ _ _ ex (same hz0) Ext.refl.chg⟩
    | some a =>
      dsimp only
      by_cases hz0 : n * t.size = 0
      · rw [if_pos hz0]
        exact hK _ _ _ ex (same hz0) Ext.refl.chg
      · rw [if_neg hz0]
        have hm : (l + n) * t.size ≤ c * t.size := Nat.mul_le_mul_right _ hle
        rcases o with o | ⟨b, f, cs, e1, e2, e3, e4⟩
        · omega
        · cases e1
          rw [add_at]
          refine ⟨rfl, cs, e, (0, 0), e3, by dsimp only; rw [hn]; omega, fun i _ _ => by simp, ?_⟩
          have hsl : (f + l * t.size) + new.length ≤ cs.toList.length := by rw [hn, Array.length_toList]; omega
          refine hK _ _ _ (ex.turn e2) ⟨⟨by simp [s1, hn]; omega, hle, .inr ⟨b, f, _, (0, 0), rfl, Hp.set_same _ _ _, fun i hi => ?_⟩⟩, .inr ⟨b, f, _, rfl, e2, Hp.set_same _ _ _, ?_⟩⟩ ⟨fun i o hi hd => ?_, fun i hi hn => ?_⟩
          · rw [List.getElem?_toArray, splice_get hsl]
            simp only [List.length_append] at hi
            by_cases h1 : i < vs.length
            · rw [if_pos (by omega), List.getElem?_append_left h1]
              rcases s3 with s3 | ⟨b', f', cs', fr', g1, g2, g3⟩
              · omega
              · cases g1
                rw [e3] at g2
                cases g2
                rw [Array.getElem?_toList, g3 i h1]
            · rw [if_neg (by omega), if_pos (by omega), List.getElem?_append_right (by omega)]
              congr 1
              omega
          · rw [List.size_toArray, splice_len hsl, Array.length_toList]; exact e4
          · have hne : i ≠ b := by
              rintro rfl
              rcases hd with hd | hd
              · exact hd e2
              · exact hd _ rfl rfl
            rw [Hp.set_ne _ _ hne]; exact hi
          · by_cases hne : i = b
            · subst hne; rw [Hp.set_same] at hn; cases hn
            · rw [Hp.set_ne _ _ hne] at hn; exact hi hn
  · have h1 : c < l + n := by omega
    exact Nat.le_trans (Nat.mul_le_mul_right _ (nextcap_le h1)) hbd
  · have h0b : h0 b = none := ex.none hbn
    have hlen : (vs ++ new).length = (l + n) * t.size := by rw [List.length_append, ho.1.1, hn, Nat.add_mul]
    refine hK _ _ _ (ex.trans (Ext.new hbn)) ⟨⟨hlen, hc, .inr ⟨b, 0, _, (0, 0), rfl, Hp.set_same _ _ _, fun i hi => ?_⟩⟩, .inr ⟨b, 0, _, rfl, h0b, Hp.set_same _ _ _, ?_⟩⟩ (Ext.new hbn).chg
    · rw [List.getElem?_toArray, Nat.zero_add, List.getElem?_append_left hi]
    · rw [List.size_toArray, List.length_append, hlen, repl_len, hz, Nat.zero_add, ← Nat.add_mul]
      exact Nat.mul_le_mul_right _ (by omega)

end Go.Proofs.YtkhfofnglkekoaaDoor
