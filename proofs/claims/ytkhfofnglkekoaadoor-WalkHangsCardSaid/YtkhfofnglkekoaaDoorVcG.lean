/- Own verification-condition framework, part G: quiet operations, the last third. Conditions: none. -/
import Derived.Test.YtkhfofnglkekoaaDoorVcE
import Derived.Laws.StructEq
namespace Go.Proofs.YtkhfofnglkekoaaDoor

theorem wpH_asIntOf {P : Program} {k : IntKind} {n : Int} {K : IntKind × Int → Hp → Prop} {h : Hp} (H : K (k, n) h) : wpH P (asIntOf (.int k n)) K h := H

/-- Reading a row of byte cells as a text. -/
theorem wpH_bytes {P : Program} {h : Hp} {f : Value → ByteArray → Sem (ForInStep ByteArray)} (hf : ∀ (b : UInt8) (r : ByteArray) (K : ForInStep ByteArray → Hp → Prop), K (.yield (r.push b)) h → wpH P (f (.int .u8 b.toNat) r) K h) :
    ∀ (l : List UInt8) (s : ByteArray) {K : ByteArray → Hp → Prop}, K (⟨s.data ++ l.toArray⟩) h → wpH P (forIn (l.map fun b => Value.int .u8 b.toNat) s f) K h
  | [], s, K, H => by
    simp only [List.map_nil, List.forIn_nil]
    have : (⟨s.data ++ ([] : List UInt8).toArray⟩ : ByteArray) = s := by cases s; simp
    rw [this] at H
    exact H
  | b :: l, s, K, H => by
    simp only [List.map_cons, List.forIn_cons]
    refine wpH_b (hf b s _ ?_)
    refine wpH_bytes hf l _ ?_
    have : (⟨(s.push b).data ++ l.toArray⟩ : ByteArray) = ⟨s.data ++ (b :: l).toArray⟩ := by
      congr 1
      apply Array.ext'
      simp [ByteArray.push]
    rw [this]
    exact H

section
variable {cx : Cx} {adr : Nat → Nat} {ρ : Operand → Value} {σ : Env} {h : Hp} {K : SV → Loc → Prop} {loc : Loc} {rd : (Hp → Prop) → Prop}
  {dst : Option Tmp} {ty : TypeId} {pos : String} {after : Array Edge} {guard : Option (Nat × Bool)}

theorem q_convert (tok : TOk cx.P cx.T) (hrd : ∀ φ, rd φ → φ h) (hc : ∀ x, tmOk adr (opnd σ x) (ρ x)) {s d : TypeId} {x : Operand} (H : vcQ cx ⟨dst, .convert s d x, ty, pos, after, guard⟩ K σ loc rd) :
    QRun cx.P adr ρ ⟨dst, .convert s d x, ty, pos, after, guard⟩ h K loc := by
  simp only [vcQ] at H
  cases hx : opnd σ x <;> rw [hx] at H <;> try exact False.elim H
  rename_i v
  cases v <;> try exact False.elim H
  case int k n =>
    simp only at H
    cases hs : (cx.T s).kind <;> cases hd : (cx.T d).kind <;> rw [hs, hd] at H <;> try exact False.elim H
    refine QRun.mk' H (wpH_v ?_)
    rw [q_val hc hx]
    unfold convert
    exact wpH_b (wpH_under (tok.int hs) (wpH_b (wpH_under (tok.int hd) ⟨rfl, rfl⟩)))
  case string u =>
    simp only at H
    cases hs : (cx.T s).kind <;> cases hd : (cx.T d).kind <;> rw [hs, hd] at H <;> try exact False.elim H
    refine QRun.mk' H (wpH_v ?_)
    rw [q_val hc hx]
    unfold convert
    exact wpH_b (wpH_under (tok.str hs) (wpH_b (wpH_under (tok.str hd) ⟨rfl, rfl⟩)))
  case slice a l c =>
    simp only at H
    cases hs : (cx.T s).kind <;> cases hd : (cx.T d).kind <;> rw [hs, hd] at H <;> try exact False.elim H
    rename_i e
    simp only at H
    cases he : (cx.T e).kind <;> rw [he] at H <;> try exact False.elim H
    rename_i k
    cases k <;> try exact False.elim H
    obtain ⟨u, hb, hk⟩ := H
    have hb := hrd _ hb
    refine QRun.mk' hk (wpH_v ?_)
    rw [q_val hc hx]
    unfold convert
    refine wpH_b (wpH_under (tok.slice hs) (wpH_b (wpH_under (tok.str hd) ?_)))
    refine wpH_b (wpH_under (tok.int he) ?_)
    unfold Conv.bytesToString
    obtain ⟨h1, h2⟩ := hb
    cases a with
    | none =>
      rcases h2 with h2 | ⟨a', h2, _⟩
      · subst h2
        have : u = .empty := by
          cases u with
          | mk d =>
            have h3 : d.size = 0 := h1
            have : d = #[] := Array.eq_empty_of_size_eq_zero h3
            subst this; rfl
        subst this
        exact ⟨rfl, rfl⟩
      · cases h2
    | some a =>
      have h2 : l = 0 ∨ At h a (u.data.toList.map fun b => Value.int .u8 b.toNat) := by
        rcases h2 with h2 | ⟨a', h2, h3⟩
        · exact .inl h2
        · cases h2; exact .inr h3
      refine wpH_b ?_
      refine wpH_mono (K := fun (arr : Array Value) h' => arr.toList = (u.data.toList.map fun b => Value.int .u8 b.toNat) ∧ h' = h) _ ?_ ?_
      · rintro arr _ ⟨ha, rfl⟩
        refine wpH_b ?_
        rw [← Array.forIn_toList, ha]
        refine wpH_bytes (fun b r K hk => ?_) _ _ ?_
        · refine wpH_p ?_
          have e2 : UInt8.ofNat (Int.toNat (b.toNat : Int)) = b := by simp
          rw [e2]
          exact hk
        · refine wpH_p ?_
          have e1 : (⟨ByteArray.empty.data ++ u.data.toList.toArray⟩ : ByteArray) = u := by
            rw [show ByteArray.empty.data = #[] from rfl]
            cases u
            simp
          rw [e1]
          exact ⟨rfl, rfl⟩
      · unfold loadCells
        rcases h2 with h2 | h2
        · subst h2
          refine wpH_p ⟨?_, rfl⟩
          have : u.data.toList = [] := by
            apply List.eq_nil_of_length_eq_zero
            rw [Array.length_toList]
            exact h1
          simp [this]
        · refine wpH_loadCells h2 l 0 #[] (by simp; exact h1.symm) ⟨?_, rfl⟩
          simp

theorem wpH_bound {P : Program} {k : IntKind} {i : Int} {y : Nat} {code : BoundsCode} {K' : Nat → Hp → Prop} (h0 : 0 ≤ i) (h1 : i ≤ y) (H : K' i.toNat h) : wpH P (Instr.sliceBound (.int k i) y code) K' h := by
  unfold Instr.sliceBound
  refine wpH_b (wpH_asIntOf ?_)
  dsimp only
  rw [if_pos ⟨h0, h1⟩]
  exact H

/-- The bounds of a slice expression without a third index. -/
theorem wpH_bounds {P : Program} {isS : Bool} {len cap : Nat} {lo hi : Option Value} {l r : Int} {K' : Nat × Nat × Nat → Hp → Prop}
    (hl : (lo = none ∧ l = 0) ∨ ∃ k, lo = some (.int k l)) (hr : (hi = none ∧ r = len) ∨ ∃ k, hi = some (.int k r)) (h0 : 0 ≤ l) (h1 : l ≤ r) (h2 : r ≤ cap) (H : K' (l.toNat, r.toNat, cap) h) :
    wpH P (Instr.sliceBounds isS len cap lo hi none) K' h := by
  unfold Instr.sliceBounds
  refine wpH_b (wpH_p ?_)
  dsimp only
  rcases hr with ⟨rfl, rfl⟩ | ⟨k, rfl⟩ <;> rcases hl with ⟨rfl, rfl⟩ | ⟨k2, rfl⟩ <;> dsimp only
  · exact wpH_b (wpH_p (wpH_b (wpH_p H)))
  · exact wpH_b (wpH_p (wpH_b (wpH_bound h0 h1 H)))
  · exact wpH_b (wpH_bound (by omega) h2 (wpH_b (wpH_p H)))
  · exact wpH_b (wpH_bound (by omega) h2 (wpH_b (wpH_bound h0 (by omega) H)))

theorem opt_lo (hc : ∀ x, tmOk adr (opnd σ x) (ρ x)) {lo : Option Operand} {k : IntKind} {l d : Int} (h : (match lo with | some l => opnd σ l | none => .val (.int .i64 d)) = .val (.int k l)) :
    (lo.map ρ = none ∧ l = d) ∨ ∃ k, lo.map ρ = some (.int k l) := by
  cases lo with
  | none => left; simp at h; exact ⟨rfl, h.2.symm⟩
  | some x => right; exact ⟨k, by simp only [Option.map_some]; rw [q_val hc h]⟩

theorem sub_ok {a : Option Addr} {l : Int} {c es : Nat} (h0 : 0 ≤ l) : (if c = l.toNat then a else a.map (·.add (l.toNat * es))) = subSl a l c es := by
  unfold subSl
  by_cases hh : (c : Int) = l
  · rw [if_pos (by omega), if_pos hh]
  · rw [if_neg (by omega), if_neg hh]

theorem q_slice (tok : TOk cx.P cx.T) (hc : ∀ x, tmOk adr (opnd σ x) (ρ x)) {t : TypeId} {x : Operand} {lo hi mx : Option Operand} (H : vcQ cx ⟨dst, .slice t x lo hi mx, ty, pos, after, guard⟩ K σ loc rd) :
    QRun cx.P adr ρ ⟨dst, .slice t x lo hi mx, ty, pos, after, guard⟩ h K loc := by
  simp only [vcQ] at H
  cases mx <;> try exact False.elim H
  simp only at H
  split at H <;> try exact False.elim H
  rename_i kl l hlo
  have hl := opt_lo hc hlo
  cases hx : opnd σ x <;> rw [hx] at H <;> try exact False.elim H
  rename_i v
  cases v <;> try exact False.elim H
  case string u =>
    simp only at H
    cases hk : (cx.T t).kind <;> rw [hk] at H <;> try exact False.elim H
    simp only at H
    split at H <;> try exact False.elim H
    rename_i kr r hhi
    have hr := opt_lo hc hhi
    obtain ⟨h0, h1, h2, H⟩ := H
    refine QRun.mk' H (wpH_v ?_)
    rw [q_val hc hx]
    unfold Instr.sliceAt
    refine wpH_b (wpH_under (tok.str hk) ?_)
    unfold Instr.slice
    refine wpH_b (wpH_under (tok.str hk) ?_)
    simp only [Option.map_none, Option.isSome_none, Bool.false_eq_true, if_false]
    refine wpH_b (wpH_bounds hl hr h0 h1 h2 ?_)
    exact ⟨rfl, rfl⟩
  case slice a n c =>
    simp only at H
    cases hk : (cx.T t).kind <;> rw [hk] at H <;> try exact False.elim H
    rename_i e
    simp only at H
    split at H <;> try exact False.elim H
    rename_i kr r hhi
    have hr := opt_lo hc hhi
    obtain ⟨h0, h1, h2, H⟩ := H
    refine QRun.mk' H (wpH_v ?_)
    rw [q_val hc hx]
    unfold Instr.sliceAt
    refine wpH_b (wpH_under (tok.slice hk) ?_)
    unfold Instr.slice
    refine wpH_b (wpH_under (tok.slice hk) ?_)
    simp only [Option.map_none]
    refine wpH_b (wpH_bounds hl hr h0 h1 h2 ?_)
    refine wpH_b (tok.size (tok.sli t e hk) ?_)
    refine wpH_p ⟨?_, rfl⟩
    have e1 : r.toNat - l.toNat = (r - l).toNat := by omega
    have e2 : c - l.toNat = ((c : Int) - l).toNat := by omega
    rw [← sub_ok h0, e1, e2]
  case pointer p =>
    cases p <;> try exact False.elim H
    rename_i a
    simp only at H
    cases hk : (cx.T t).kind <;> rw [hk] at H <;> try exact False.elim H
    rename_i n e
    simp only at H
    split at H <;> try exact False.elim H
    rename_i kr r hhi
    have hr := opt_lo hc hhi
    obtain ⟨h0, h1, h2, H⟩ := H
    refine QRun.mk' H (wpH_v ?_)
    rw [q_val hc hx]
    unfold Instr.sliceAt
    refine wpH_b (wpH_under (tok.array hk) ?_)
    refine wpH_b ?_
    unfold Instr.sureAddr
    refine wpH_p ?_
    simp only [Option.map_none]
    refine wpH_b (wpH_bounds hl hr h0 h1 h2 ?_)
    refine wpH_b (tok.size (tok.arr t n e hk) ?_)
    refine wpH_p ⟨?_, rfl⟩
    have e1 : r.toNat - l.toNat = (r - l).toNat := by omega
    have e2 : n - l.toNat = ((n : Int) - l).toNat := by omega
    rw [← sub_ok h0, e1, e2]
    by_cases hh : n = l.toNat
    · rw [if_pos hh, if_pos hh]
    · rw [if_neg hh, if_neg hh]; rfl

/-- A part of a row of cells. -/
theorem wpH_part (tok : TOk cx.P cx.T) {u : TypeId} (hk : (cx.T u).kind.val = true) {cs : Array Value} {off : Nat} (hl : off + (cx.T u).size ≤ cs.toList.length) {K' : Value → Hp → Prop}
    (H : K' (match (cx.T u).kind.agg with | true => .agg ((cs.toList.drop off).take (cx.T u).size).toArray | false => cs.toList.getD off undef) h) : wpH cx.P (part u cs off) K' h := by
  unfold part
  refine wpH_b (tok.isAgg hk ?_)
  cases hg : (cx.T u).kind.agg with
  | true =>
    rw [hg] at H
    simp only [if_true]
    refine wpH_b (tok.size hk (wpH_p ?_))
    have : cs.extract off (off + (cx.T u).size) = ((cs.toList.drop off).take (cx.T u).size).toArray := by
      apply Array.ext'
      simp
    rw [this]; exact H
  | false =>
    rw [hg] at H
    have h1 := tok_one tok hk hg
    simp only [Bool.false_eq_true, if_false]
    have h2 : off < cs.toList.length := by omega
    have : cs[off]? = some (cs.toList.getD off undef) := by
      simp [List.getD, List.getElem?_eq_getElem h2]
    simp only [this]
    exact H

theorem q_field (tok : TOk cx.P cx.T) (hc : ∀ x, tmOk adr (opnd σ x) (ρ x)) {t : TypeId} {x : Operand} {f : Nat} (H : vcQ cx ⟨dst, .field t x f, ty, pos, after, guard⟩ K σ loc rd) :
    QRun cx.P adr ρ ⟨dst, .field t x f, ty, pos, after, guard⟩ h K loc := by
  simp only [vcQ] at H
  cases hk : (cx.T t).kind <;> cases hx : opnd σ x <;> rw [hk, hx] at H <;> try exact False.elim H
  rename_i offs ts v
  cases v <;> try exact False.elim H
  rename_i cs
  simp only at H
  cases hp : structPlace offs ts f <;> rw [hp] at H <;> try exact False.elim H
  rename_i p
  obtain ⟨off, u⟩ := p
  simp only at H
  cases hb : Nat.ble (off + (cx.T u).size) cs.toList.length <;> rw [hb] at H <;> try exact False.elim H
  have hle := Nat.le_of_ble_eq_true hb
  obtain ⟨fs, hu, h1, h2⟩ := tok.struct hk
  unfold structPlace at hp
  subst h1; subst h2
  simp only [List.getElem?_map] at hp
  cases hf : fs.toList[f]? with
  | none => simp [hf] at hp
  | some fd =>
    simp [hf] at hp
    obtain ⟨rfl, rfl⟩ := hp
    have hfld := tok.fields t _ _ hk fd.type (List.mem_map_of_mem (List.mem_of_getElem? hf))
    have hfa : fs[f]? = some fd := by simpa using hf
    have main : ∀ {K2 : Value → Hp → Prop}, K2 (match (cx.T fd.type).kind.agg with | true => .agg ((cs.toList.drop fd.offset).take (cx.T fd.type).size).toArray | false => cs.toList.getD fd.offset undef) h →
        wpH cx.P (Instr.field t (ρ x) f) K2 h := by
      intro K2 hk2
      unfold Instr.field
      refine wpH_b (wpH_under hu ?_)
      simp only [hfa]
      rw [q_val hc hx]
      exact wpH_b (wpH_part tok hfld.1 hle hk2)
    cases hg : (cx.T fd.type).kind.agg with
    | true => simp only [hg] at H; exact QRun.mk' H (wpH_v (main (by rw [hg]; exact ⟨rfl, rfl⟩)))
    | false => simp only [hg] at H; exact QRun.mk' H (wpH_v (main (by rw [hg]; exact ⟨rfl, rfl⟩)))

theorem q_indexAddr (tok : TOk cx.P cx.T) (hc : ∀ x, tmOk adr (opnd σ x) (ρ x)) {t : TypeId} {x i : Operand} (H : vcQ cx ⟨dst, .indexAddr t x i, ty, pos, after, guard⟩ K σ loc rd) :
    QRun cx.P adr ρ ⟨dst, .indexAddr t x i, ty, pos, after, guard⟩ h K loc := by
  simp only [vcQ] at H
  cases hi : opnd σ i <;> rw [hi] at H <;> try exact False.elim H
  rename_i v
  cases v <;> try exact False.elim H
  rename_i ki n
  simp only at H
  cases hx : opnd σ x <;> rw [hx] at H <;> try exact False.elim H
  rename_i v
  cases v <;> try exact False.elim H
  case slice a l c =>
    simp only at H
    cases hk : (cx.T t).kind <;> rw [hk] at H <;> try exact False.elim H
    rename_i e
    obtain ⟨h0, h1, H⟩ := H
    unfold ptrM at H
    cases a <;> try exact False.elim H
    rename_i a
    refine QRun.mk' H (wpH_v ?_)
    rw [q_val hc hx, q_val hc hi]
    unfold Instr.indexAt
    refine wpH_b (wpH_asIntOf ?_)
    dsimp only
    refine wpH_b (wpH_under (tok.slice hk) ?_)
    dsimp only
    refine wpH_b (wpH_p ?_)
    refine wpH_b (wpH_under (tok.slice hk) ?_)
    dsimp only
    rw [if_pos ⟨h0, h1⟩]
    exact wpH_b (tok.size (tok.sli t e hk) ⟨rfl, rfl⟩)
  case pointer p =>
    cases p <;> try exact False.elim H
    rename_i a
    simp only at H
    cases hk : (cx.T t).kind <;> rw [hk] at H <;> try exact False.elim H
    rename_i m e
    obtain ⟨h0, h1, H⟩ := H
    refine QRun.mk' H (wpH_v ?_)
    rw [q_val hc hx, q_val hc hi]
    unfold Instr.indexAt
    refine wpH_b (wpH_asIntOf ?_)
    dsimp only
    refine wpH_b (wpH_under (tok.array hk) ?_)
    dsimp only
    refine wpH_b ?_
    unfold Instr.sureAddr
    refine wpH_p ?_
    refine wpH_b ?_
    refine wpH_p ?_
    refine wpH_b (wpH_under (tok.array hk) ?_)
    dsimp only
    rw [if_pos ⟨h0, h1⟩]
    exact wpH_b (tok.size (tok.arr t m e hk) ⟨rfl, rfl⟩)

theorem q_index (tok : TOk cx.P cx.T) (hc : ∀ x, tmOk adr (opnd σ x) (ρ x)) {t : TypeId} {x i : Operand} (H : vcQ cx ⟨dst, .index t x i, ty, pos, after, guard⟩ K σ loc rd) :
    QRun cx.P adr ρ ⟨dst, .index t x i, ty, pos, after, guard⟩ h K loc := by
  simp only [vcQ] at H
  cases hi : opnd σ i <;> rw [hi] at H <;> try exact False.elim H
  rename_i v
  cases v <;> try exact False.elim H
  rename_i ki n
  simp only at H
  cases hx : opnd σ x <;> rw [hx] at H <;> try exact False.elim H
  rename_i v
  cases v <;> try exact False.elim H
  case string s =>
    simp only at H
    cases hk : (cx.T t).kind <;> rw [hk] at H <;> try exact False.elim H
    obtain ⟨h0, h1, H⟩ := H
    refine QRun.mk' H (wpH_v ?_)
    rw [q_val hc hx, q_val hc hi]
    unfold Instr.index
    refine wpH_b (wpH_asIntOf ?_)
    refine wpH_b (wpH_under (tok.str hk) ?_)
    have hlt : n.toNat < s.size := by omega
    have : s[n.toNat]? = some s[n.toNat] := by
      rw [getElem?_pos s n.toNat hlt]
    simp only [if_pos h0, this]
    refine wpH_p ⟨?_, rfl⟩
    congr 2
    unfold byteAt
    have hd : s.data.toList.getD n.toNat 0 = s[n.toNat] := by
      have h3 : n.toNat < s.data.toList.length := by rw [Array.length_toList]; exact hlt
      rw [List.getD_eq_getElem?_getD, List.getElem?_eq_getElem h3]
      rfl
    rw [hd]
  case agg cs =>
    simp only at H
    cases hk : (cx.T t).kind <;> rw [hk] at H <;> try exact False.elim H
    rename_i m e
    simp only at H
    cases hg : (cx.T e).kind.agg <;> rw [hg] at H <;> try exact False.elim H
    split at H <;> try exact False.elim H
    rename_i hg1 hs1
    obtain ⟨h0, h1, H⟩ := H
    obtain ⟨vs, hlen, hv, hK⟩ := vEx1_some H
    have he := tok.arr t m e hk
    refine QRun.mk' hK (wpH_v ?_)
    rw [q_val hc hx, q_val hc hi]
    unfold Instr.index
    refine wpH_b (wpH_asIntOf ?_)
    refine wpH_b (wpH_under (tok.array hk) ?_)
    simp only []
    rw [if_pos ⟨h0, h1⟩]
    refine wpH_b (tok.size he ?_)
    have hlt : n.toNat < cs.toList.length := (List.getElem?_eq_some_iff.1 hv).1
    refine wpH_part tok he (by rw [hs1]; omega) ?_
    rw [hg, hs1, Nat.mul_one]
    simp only []
    rw [List.getD_eq_getElem?_getD, hv]
    simp [hg]

/-! ### Maps, and the builtins that only look -/

def keyDesc : Kd → Option TypeDesc
  | .int k => some (.int k)
  | .str => some .string
  | _ => none

def keyIs (kd : Kd) (u : Value) : Prop :=
  match kd with
  | .int i => ∃ n, u = .int i n
  | .str => ∃ s, u = .string s
  | _ => False

theorem beqBytes (a b : ByteArray) : (a == b) = decide (a = b) := by rw [Go.beq_toListBytes, eqList]

theorem keyEq_now {kd : Kd} {d : TypeDesc} (hd : keyDesc kd = some d) {key u : Value} (hk : keyOk kd key = true) (hu : keyIs kd u) :
    Instr.sameNow d key u = some (keyEq key u) := by
  cases kd <;> simp [keyDesc] at hd
  · subst hd
    obtain ⟨n, rfl⟩ := hu
    cases key <;> simp [keyOk] at hk
    subst hk
    simp [Instr.sameNow, keyEq]
  · subst hd
    obtain ⟨s, rfl⟩ := hu
    cases key <;> simp [keyOk] at hk
    rename_i b
    simp only [Instr.sameNow, keyEq, beqBytes]

def midx (k : Value) : List MapEntry → Nat → Option (Nat × Value)
  | [], _ => none
  | e :: r, i => cond (keyEq k e.key) (some (i, e.val)) (midx k r (i + 1))

theorem midx_find (k : Value) : ∀ (es : List MapEntry) (i : Nat), (midx k es i).map (·.2) = mfind k es
  | [], _ => rfl
  | e :: r, i => by
    unfold midx mfind
    cases keyEq k e.key
    · exact midx_find k r (i + 1)
    · rfl

theorem findNow_ok {kd : Kd} {d : TypeDesc} (hd : keyDesc kd = some d) {key : Value} (hk : keyOk kd key = true) : ∀ (es : List MapEntry) (i : Nat), keysOf kd es → Instr.findNow d key es i = some (midx key es i)
  | [], _, _ => rfl
  | e :: r, i, h => by
    have he : keyIs kd e.key := by
      cases kd <;> simp only [keysOf] at h
      · exact h e (by simp)
      · exact h e (by simp)
    have hr : keysOf kd r := by
      cases kd <;> simp only [keysOf] at h ⊢
      · exact fun x hx => h x (by simp [hx])
      · exact fun x hx => h x (by simp [hx])
    unfold Instr.findNow midx
    rw [keyEq_now hd hk he]
    cases keyEq key e.key
    · exact findNow_ok hd hk r (i + 1) hr
    · rfl

theorem wpH_findKey {P : Program} {t : TypeId} {kd : Kd} {d : TypeDesc} (hd : keyDesc kd = some d) (hu : P.underlying t = some d) {key : Value} (hk : keyOk kd key = true) {es : List MapEntry} (hes : keysOf kd es)
    {K' : Option (Nat × Value) → Hp → Prop} (H : K' (midx key es 0) h) : wpH P (Instr.findKey t key es) K' h := by
  unfold Instr.findKey
  refine wpH_b (wpH_under hu ?_)
  rw [findNow_ok hd hk es 0 hes]
  exact H

theorem wpH_checkKey {P : Program} {t : TypeId} {kd : Kd} {d : TypeDesc} (hd : keyDesc kd = some d) (hu : P.underlying t = some d) {key : Value} (hk : keyOk kd key = true) {b : Bool}
    {K' : Unit → Hp → Prop} (H : K' () h) : wpH P (Instr.checkKey b 10000 t key) K' h := by
  unfold Instr.checkKey
  refine wpH_b (wpH_under hu ?_)
  cases kd <;> simp [keyDesc] at hd <;> subst hd <;> cases key <;> simp [keyOk] at hk <;> exact H

theorem keyDesc_ok (tok : TOk cx.P cx.T) {t : TypeId} {key : Value} (h : keyOk (cx.T t).kind key = true) : ∃ d, keyDesc (cx.T t).kind = some d ∧ cx.P.underlying t = some d := by
  cases hk : (cx.T t).kind <;> rw [hk] at h <;> try (cases key <;> simp [keyOk] at h; done)
  · exact ⟨_, rfl, tok.int hk⟩
  · exact ⟨_, rfl, tok.str hk⟩

theorem q_lookup (tok : TOk cx.P cx.T) (hrd : ∀ φ, rd φ → φ h) (hc : ∀ x, tmOk adr (opnd σ x) (ρ x)) {t : TypeId} {m k : Operand} {ok : Bool} (H : vcQ cx ⟨dst, .lookup t m k ok, ty, pos, after, guard⟩ K σ loc rd) :
    QRun cx.P adr ρ ⟨dst, .lookup t m k ok, ty, pos, after, guard⟩ h K loc := by
  simp only [vcQ] at H
  split at H <;> try exact False.elim H
  rename_i kt e r key hk hm hx
  cases hok : keyOk (cx.T kt).kind key <;> rw [hok] at H <;> try exact False.elim H
  obtain ⟨es, hes, hkeys, H⟩ := H
  have hes := hrd _ hes
  obtain ⟨vs, hlen, hv, hK⟩ := vEx1_some H
  obtain ⟨d, hd, hu⟩ := keyDesc_ok tok hok
  have he := (tok.mp t kt e hk).2
  refine QRun.mk' hK (wpH_v ?_)
  rw [q_val hc hm, q_val hc hx]
  unfold Instr.lookup
  refine wpH_b (wpH_under (tok.map hk) ?_)
  dsimp only
  have fin : ∀ arr : Array MapEntry, arr.toList = es → wpH cx.P (do
      Instr.checkKey arr.isEmpty 10000 kt key
      let (v, ok') ← match ← Instr.findKey kt key arr.toList with
        | some (_, v) => pure (v, true)
        | none => do pure (← zeroValue e, false)
      pure (if ok then .tuple #[v, .bool ok'] else v)) (fun v h' => Next.value v = .value (cond ok (.tuple #[mkA (cx.T e).kind.agg vs, .bool (mfind key es).isSome]) (mkA (cx.T e).kind.agg vs)) ∧ h' = h) h := by
    intro arr ha
    refine wpH_b (wpH_checkKey hd hu hok ?_)
    rw [ha]
    refine wpH_b (wpH_findKey hd hu hok hkeys ?_)
    have hmf := midx_find key es 0
    cases hi : midx key es 0 with
    | none =>
      rw [hi] at hmf
      simp only [Option.map_none] at hmf
      rw [← hmf] at hv ⊢
      simp only [Option.getD_none] at hv
      dsimp only
      refine wpH_b (tok.zero he ?_)
      refine wpH_b (wpH_p ?_)
      rw [hv]
      cases ok <;> exact ⟨rfl, rfl⟩
    | some p =>
      obtain ⟨j, u⟩ := p
      rw [hi] at hmf
      simp only [Option.map_some] at hmf
      rw [← hmf] at hv ⊢
      simp only [Option.getD_some] at hv
      subst hv
      refine wpH_b (wpH_p ?_)
      cases ok <;> exact ⟨rfl, rfl⟩
  unfold MapIs at hes
  cases r with
  | none =>
    subst hes
    refine wpH_b (wpH_p ?_)
    exact fin #[] rfl
  | some b =>
    obtain ⟨clk, hb⟩ := hes
    refine wpH_b ?_
    refine ⟨_, hb, trivial, ?_⟩
    exact fin es.toArray (by simp)
end
end Go.Proofs.YtkhfofnglkekoaaDoor
