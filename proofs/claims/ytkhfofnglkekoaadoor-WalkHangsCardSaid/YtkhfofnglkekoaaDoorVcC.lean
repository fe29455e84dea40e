/- Own verification-condition framework, part C: what the model's instructions do over a part of the heap. Conditions: none. -/
import Derived.Test.YtkhfofnglkekoaaDoorVcB
namespace Go.Proofs.YtkhfofnglkekoaaDoor

section
variable {P : Program} {α β : Type} {h : Hp}

theorem wpH_b {s : Sem α} {f : α → Sem β} {K : β → Hp → Prop} (H : wpH P s (fun a h => wpH P (f a) K h) h) : wpH P (s >>= f) K h := wpH_bind s f H
theorem wpH_p {a : α} {K : α → Hp → Prop} (H : K a h) : wpH P (pure a : Sem α) K h := H

theorem wpH_under {t : TypeId} {d : TypeDesc} {K : TypeDesc → Hp → Prop} (hd : P.underlying t = some d) (H : K d h) : wpH P (underlying t) K h := by
  unfold underlying
  refine wpH_b ?_
  show wpH P (match P.underlying t with | some d => pure d | none => stuck "no such type") K h
  rw [hd]; exact H
theorem wpH_info {t : TypeId} {i : TypeInfo} {K : TypeInfo → Hp → Prop} (hd : P.info? t = some i) (H : K i h) : wpH P (typeInfo t) K h := by
  unfold typeInfo
  refine wpH_b ?_
  show wpH P (match P.info? t with | some d => pure d | none => stuck "no such type") K h
  rw [hd]; exact H
theorem wpH_size {t : TypeId} {i : TypeInfo} {K : Nat → Hp → Prop} (hd : P.info? t = some i) (H : K i.size h) : wpH P (sizeOf t) K h :=
  wpH_b (wpH_info hd H)
theorem wpH_zero {t : TypeId} {i : TypeInfo} {z : Value} {K : Value → Hp → Prop} (hd : P.info? t = some i) (hz : i.zero = some z) (H : K z h) : wpH P (zeroValue t) K h := by
  unfold zeroValue
  refine wpH_b (wpH_info hd ?_)
  rw [hz]; exact H
end

/-! ### Types -/

def kdOf : TypeDesc → Kd
  | .int k => .int k
  | .bool => .bool
  | .string => .str
  | .pointer _ => .ptr
  | .func _ _ _ => .fn
  | .map k e => .map k e
  | .slice e => .slice e
  | .array n e => .array n e
  | .struct fs => .struct (fs.toList.map (·.offset)) (fs.toList.map (·.type))
  | .tuple ts => .tuple ts.toList
  | _ => .other

/-- What is asked of the table of types. -/
structure TOk (P : Program) (T : Nat → TI) : Prop where
  und : ∀ t, (T t).kind.val = true → (P.underlying t).map kdOf = some (T t).kind
  info : ∀ t, (T t).kind.val = true → ∃ i, P.info? t = some i ∧ i.size = (T t).size ∧ i.bytes = (T t).bytes ∧ i.zero = some (mkV (T t).kind.agg (T t).zero) ∧ (T t).zero.length = (T t).size ∧ (T t).sh.length = (T t).size ∧ (T t).zero.all leafB = true
  one : ∀ t, (T t).kind.val = true → (T t).kind.agg = false → (T t).size = 1
  fields : ∀ t offs ts, (T t).kind = .struct offs ts → ∀ u ∈ ts, (T u).kind.val = true ∧ (T u).size ≠ 0
  ptr : ∀ t, (T t).kind = .ptr → ∃ e, P.underlying t = some (.pointer e) ∧ (P.info? e).isSome = true
  arr : ∀ t n e, (T t).kind = .array n e → (T e).kind.val = true
  sli : ∀ t e, (T t).kind = .slice e → (T e).kind.val = true
  mp : ∀ t k e, (T t).kind = .map k e → (T k).kind.val = true ∧ (T e).kind.val = true

namespace TOk
variable {P : Program} {T : Nat → TI} (ok : TOk P T)
include ok

theorem desc {t : TypeId} {k : Kd} (hk : (T t).kind = k) (hn : k.val = true) : ∃ d, P.underlying t = some d ∧ kdOf d = k := by
  have := ok.und t (by rw [hk]; exact hn)
  cases hd : P.underlying t with
  | none => rw [hd] at this; cases this
  | some d => rw [hd, hk] at this; exact ⟨d, rfl, by simpa using this⟩

theorem slice {t e : TypeId} (hk : (T t).kind = .slice e) : P.underlying t = some (.slice e) := by
  obtain ⟨d, hd, hkd⟩ := ok.desc hk rfl
  cases d <;> simp [kdOf] at hkd
  rw [hd, hkd]
theorem array {t e : TypeId} {n : Nat} (hk : (T t).kind = .array n e) : P.underlying t = some (.array n e) := by
  obtain ⟨d, hd, hkd⟩ := ok.desc hk rfl
  cases d <;> simp [kdOf] at hkd
  rw [hd, hkd.1, hkd.2]
theorem map {t k e : TypeId} (hk : (T t).kind = .map k e) : P.underlying t = some (.map k e) := by
  obtain ⟨d, hd, hkd⟩ := ok.desc hk rfl
  cases d <;> simp [kdOf] at hkd
  rw [hd, hkd.1, hkd.2]
theorem int {t : TypeId} {k : IntKind} (hk : (T t).kind = .int k) : P.underlying t = some (.int k) := by
  obtain ⟨d, hd, hkd⟩ := ok.desc hk rfl
  cases d <;> simp [kdOf] at hkd
  rw [hd, hkd]
theorem str {t : TypeId} (hk : (T t).kind = .str) : P.underlying t = some .string := by
  obtain ⟨d, hd, hkd⟩ := ok.desc hk rfl
  cases d <;> simp [kdOf] at hkd
  rw [hd]
theorem bool {t : TypeId} (hk : (T t).kind = .bool) : P.underlying t = some .bool := by
  obtain ⟨d, hd, hkd⟩ := ok.desc hk rfl
  cases d <;> simp [kdOf] at hkd
  rw [hd]
theorem struct {t : TypeId} {offs : List Nat} {ts : List TypeId} (hk : (T t).kind = .struct offs ts) :
    ∃ fs : Array Field, P.underlying t = some (.struct fs) ∧ fs.toList.map (·.offset) = offs ∧ fs.toList.map (·.type) = ts := by
  obtain ⟨d, hd, hkd⟩ := ok.desc hk rfl
  cases d <;> simp [kdOf] at hkd
  rename_i fs
  exact ⟨fs, hd, by simpa using hkd.1, by simpa using hkd.2⟩

theorem isAgg {t : TypeId} (hk : (T t).kind.val = true) {h : Hp} {K : Bool → Hp → Prop} (H : K (T t).kind.agg h) : wpH P (isAgg t) K h := by
  obtain ⟨d, hd, hkd⟩ := ok.desc rfl hk
  unfold Go.isAgg
  refine wpH_b (wpH_under hd ?_)
  cases d <;> simp only [kdOf] at hkd <;> rw [← hkd] at H <;> exact H

theorem size {t : TypeId} (hk : (T t).kind.val = true) {h : Hp} {K : Nat → Hp → Prop} (H : K (T t).size h) : wpH P (sizeOf t) K h := by
  obtain ⟨i, hi, hs, _⟩ := ok.info t hk
  exact wpH_size hi (hs ▸ H)

theorem zero {t : TypeId} (hk : (T t).kind.val = true) {h : Hp} {K : Value → Hp → Prop} (H : K (mkV (T t).kind.agg (T t).zero) h) : wpH P (zeroValue t) K h := by
  obtain ⟨i, hi, _, _, hz, _⟩ := ok.info t hk
  exact wpH_zero hi hz H

theorem zcells {t : TypeId} (hk : (T t).kind.val = true) : (mkV (T t).kind.agg (T t).zero).cells.toList = (T t).zero := by
  obtain ⟨i, _, _, _, _, hl, _, hf⟩ := ok.info t hk
  cases hg : (T t).kind.agg with
  | true => simp [mkV, Value.cells]
  | false =>
    have h1 := ok.one t hk hg
    rw [h1] at hl
    match hz : (T t).zero, hl with
    | [v], _ =>
      rw [hz] at hf
      simp at hf
      cases v <;> first | (simp [leafB] at hf; done) | rfl
end TOk

/-! ### Cells -/

theorem at_cell {h : Hp} {a : Addr} {vs : List Value} (H : At h a vs) {i : Nat} (hi : i < vs.length) : h.cell (a.add i) = some vs[i] := by
  obtain ⟨hs, c, e, fr, hb, hc⟩ := H
  have := hc i hi
  unfold Hp.cell Addr.add
  by_cases h0 : i = 0
  · subst h0; simp only [if_true, hb, hs]; simpa [List.getElem?_eq_getElem hi] using this
  · simp only [if_neg h0, hb]; simpa [List.getElem?_eq_getElem hi] using this

theorem wpH_loadCells {P : Program} {h : Hp} {a : Addr} {vs : List Value} (H : At h a vs) : ∀ (n i : Nat) (acc : Array Value) {K : Array Value → Hp → Prop}, i + n = vs.length →
    K (acc ++ (vs.drop i).toArray) h → wpH P (loadCellsFrom a i n acc) K h := by
  intro n
  induction n with
  | zero =>
    intro i acc K hn hk
    rw [List.drop_of_length_le (by omega)] at hk
    simpa [loadCellsFrom] using wpH_p (P := P) (by simpa using hk)
  | succ n ih =>
    intro i acc K hn hk
    unfold loadCellsFrom
    refine wpH_b ⟨vs[i], at_cell H (by omega), ?_⟩
    refine ih (i + 1) _ (by omega) ?_
    have e : acc.push vs[i] ++ (vs.drop (i + 1)).toArray = acc ++ (vs.drop i).toArray := by
      rw [List.drop_eq_getElem_cons (by omega : i < vs.length)]
      apply Array.ext'
      simp
    rw [e]; exact hk

def mkA (g : Bool) (vs : List Value) : Value := match g with | true => .agg vs.toArray | false => vs.headD undef

/-- A variable read. -/
theorem wpH_loadVar {P : Program} {T : Nat → TI} (ok : TOk P T) {t : TypeId} (hk : (T t).kind.val = true) {h : Hp} {a : Addr} {vs : List Value} (hl : vs.length = (T t).size) (H : At h a vs)
    {K : Value → Hp → Prop} (hK : K (mkA (T t).kind.agg vs) h) : wpH P (loadVar t a) K h := by
  unfold loadVar
  refine wpH_b (ok.isAgg hk ?_)
  cases hg : (T t).kind.agg with
  | true =>
    rw [hg] at hK
    simp only [if_true]
    refine wpH_b (ok.size hk ?_)
    refine wpH_b ?_
    refine wpH_loadCells H _ 0 #[] (by omega) ?_
    refine wpH_p ?_
    simpa [mkA] using hK
  | false =>
    rw [hg] at hK
    simp only [Bool.false_eq_true, if_false]
    have h1 : (T t).size = 1 := ok.one t hk hg
    match vs, hl with
    | [v], _ =>
      have := at_cell H (i := 0) (by simp)
      refine ⟨v, by simpa [Addr.add] using this, ?_⟩
      exact hK
    | [], hl => simp [h1] at hl
    | _ :: _ :: _, hl => simp [h1] at hl

/-- May a cell be written with it? -/
def leafV : Value → Prop
  | .agg _ => False
  | .tuple _ => False
  | _ => True

theorem splice_nil (c : List Value) (o : Nat) : splice c o [] = c := by simp [splice]
theorem splice_cons (c : List Value) (o : Nat) (v : Value) (vs : List Value) (ho : o + (vs.length + 1) ≤ c.length) : splice c o (v :: vs) = splice (c.set o v) (o + 1) vs := by
  unfold splice
  have h1 : (c.set o v).take (o + 1) = c.take o ++ [v] := by
    rw [List.take_add_one]
    simp [List.take_set_of_le, show o < c.length by omega]
  have h2 : (c.set o v).drop (o + 1 + vs.length) = c.drop (o + (v :: vs).length) := by
    rw [List.drop_set_of_lt (by omega)]
    congr 1
    simp; omega
  rw [h1, h2]
  simp

theorem wpH_storeCells {P : Program} {e : TypeId} {fr : Nat × Nat} {a : Addr} (hs : a.spot = none) : ∀ (vs : List Value) (i : Nat) (c : List Value) {h : Hp} {K : Unit → Hp → Prop}, (∀ v ∈ vs, leafV v) →
    h a.block = some (.cells c.toArray e fr) → a.off + i + vs.length ≤ c.length → (∀ j, a.off + i ≤ j → j < a.off + i + vs.length → ¬(fr.1 ≤ j ∧ j < fr.2)) →
    (∀ h', (∀ b, b ≠ a.block → h' b = h b) → h' a.block = some (.cells (splice c (a.off + i) vs).toArray e fr) → K () h') → wpH P (storeCells a vs i) K h := by
  intro vs
  induction vs with
  | nil =>
    intro i c h K _ hb _ _ hk
    unfold storeCells
    exact wpH_p (hk h (fun _ _ => rfl) (by rw [splice_nil]; exact hb))
  | cons v vs ih =>
    intro i c h K hv hb hl hf hk
    have hadd : a.add i = ⟨a.block, a.off + i, none⟩ := by
      unfold Addr.add
      split
      · rename_i h0; subst h0; cases a; simp at hs ⊢; exact hs
      · rfl
    simp only [List.length_cons] at hl hf
    unfold storeCells
    rw [hadd]
    refine wpH_b ?_
    have hleaf := hv v (by simp)
    refine ⟨by cases v <;> first | exact hleaf.elim | trivial, c.toArray, e, fr, hb, rfl, by simp; omega, ?_, ?_⟩
    · have := hf (a.off + i) (Nat.le_refl _) (by omega)
      rw [Bool.and_eq_false_iff]
      by_cases h1 : fr.1 ≤ a.off + i
      · right; simp; by_cases h2 : a.off + i < fr.2
        · exact absurd ⟨h1, h2⟩ this
        · omega
      · left; simp; omega
    · refine ih (i + 1) (c.set (a.off + i) v) (fun u hu => hv u (by simp [hu])) ?_ (by rw [List.length_set]; omega) (fun j h1 h2 => hf j (by omega) (by omega)) ?_
      · rw [Hp.set_same]; simp
      · intro h' he hb'
        refine hk h' (fun b hb2 => by rw [he b hb2, Hp.set_ne _ _ hb2]) ?_
        rw [hb', splice_cons _ _ _ _ (by omega)]
        congr 3

end Go.Proofs.YtkhfofnglkekoaaDoor
