/- The rows of WalkReads and WalkHangs. Conditions: none. -/
import Derived.Test.YtkhfofnglkekoaaDoorCaB
import Derived.Test.YtkhfofnglkekoaaDoorCtYb
import Derived.Test.YtkhfofnglkekoaaDoorCards
import Derived.Test.YtkhfofnglkekoaaDoorTie
namespace Go.Proofs.YtkhfofnglkekoaaDoor
open Go.ChangeShapes Go.WideShapes Go.ChangeAt Go.RowKit
set_option maxRecDepth 100000

theorem own : ownKnob Tryd.prog.godebug = none := by kernel_rfl
theorem laidOutB_ : laidOutB Tryd.prog = true := by kernel_rfl
theorem mapsRowed_ : mapsRowed Tryd.prog = true := by kernel_rfl
theorem kids : Kids Tryd.prog (· < Tryd.prog.types.size) := kids_rows laidOutB_ mapsRowed_

/-- The cells of a table, and of one of small tables. -/
def lit0 : DataW Unit → List Value
  | .lit (.int k n) => [.int k n]
  | _ => []
def lit1 : DataW Unit → List Value
  | .agg ds => ds.flatMap lit0
  | _ => []
def lit2 : DataW Unit → List Value
  | .agg ds => ds.flatMap lit1
  | _ => []

theorem tyOp17 : flatT Tryd.prog 3 34 = [3, 30, 30, 9, 5, 30, 30, 30] := by kernel_rfl

theorem wf_int {k : IntKind} {n : Int} (h : (Lit.int k n).wf = true) : k.has n := by
  simp only [Lit.wf, Bool.and_eq_true, decide_eq_true_eq] at h
  exact h
theorem has_u32 {n : Int} (h : IntKind.u32.has n) : ∃ m : Nat, n = m ∧ m < 4294967296 := by
  obtain ⟨h1, h2⟩ := h
  have h1 : (0 : Int) ≤ n := h1
  have h2 : n ≤ 4294967295 := h2
  exact ⟨n.toNat, by omega, by omega⟩
theorem has_u8 {n : Int} (h : IntKind.u8.has n) : ∃ m : Nat, n = m ∧ m < 256 := by
  obtain ⟨h1, h2⟩ := h
  have h1 : (0 : Int) ≤ n := h1
  have h2 : n ≤ 255 := h2
  exact ⟨n.toNat, by omega, by omega⟩

section
variable {H : Type} {enc : TypeId × Value → H} {W : World} {base : Nat} {sp : Nat → Bool} {held : Bool}

theorem lf_u32 {ts : List TypeId} {cs : List Value} (h : Lf enc Tryd.prog W base sp held (30 :: ts) cs) : ∃ (n : Nat) (r : List Value), cs = .int .u32 n :: r ∧ n < 4294967296 ∧ Lf enc Tryd.prog W base sp held ts r := by
  obtain ⟨p, r, m, x, rfl, h1, h2⟩ := h
  obtain ⟨n, rfl, _, hw⟩ := DataW.trod_int Tryd.underlying30 h1
  obtain ⟨k, rfl, hk⟩ := has_u32 (wf_int hw)
  exact ⟨k, r, rfl, hk, h2⟩
theorem lf_u8 {ts : List TypeId} {cs : List Value} (h : Lf enc Tryd.prog W base sp held (5 :: ts) cs) : ∃ (n : Nat) (r : List Value), cs = .int .u8 n :: r ∧ n < 256 ∧ Lf enc Tryd.prog W base sp held ts r := by
  obtain ⟨p, r, m, x, rfl, h1, h2⟩ := h
  obtain ⟨n, rfl, _, hw⟩ := DataW.trod_int Tryd.underlying5 h1
  obtain ⟨k, rfl, hk⟩ := has_u8 (wf_int hw)
  exact ⟨k, r, rfl, hk, h2⟩
theorem lf_int {ts : List TypeId} {cs : List Value} (h : Lf enc Tryd.prog W base sp held (3 :: ts) cs) : ∃ (n : Int) (r : List Value), cs = .int .i64 n :: r ∧ I64 n ∧ Lf enc Tryd.prog W base sp held ts r := by
  obtain ⟨p, r, m, x, rfl, h1, h2⟩ := h
  obtain ⟨n, rfl, _, hw⟩ := DataW.trod_int Tryd.underlying3 h1
  exact ⟨n, r, rfl, wf_int hw, h2⟩
theorem lf_str {ts : List TypeId} {cs : List Value} (h : Lf enc Tryd.prog W base sp held (9 :: ts) cs) : ∃ (s : ByteArray) (r : List Value), cs = .string s :: r ∧ s.size ≤ maxLen ∧ Lf enc Tryd.prog W base sp held ts r := by
  obtain ⟨p, r, m, x, rfl, h1, h2⟩ := h
  obtain ⟨s, rfl, _, hs⟩ := DataW.trod_string Tryd.underlying9 h1
  exact ⟨s, r, rfl, hs, h2⟩

theorem op_of {cs : List Value} {m : Nat} {x : DataW H × List MemPlace} (h : DataW.trod enc Tryd.prog W base sp held m 34 cs = some x) : ∃ o : Op17, o.vals = cs ∧ o.ok := by
  have h := lf_flat kids 3 m 34 cs x (of_decide_eq_true (by kernel_rfl)) h
  rw [tyOp17] at h
  obtain ⟨k, r, rfl, _, h⟩ := lf_int h
  obtain ⟨d, r, rfl, hd, h⟩ := lf_u32 h
  obtain ⟨i, r, rfl, hi, h⟩ := lf_u32 h
  obtain ⟨s, r, rfl, _, h⟩ := lf_str h
  obtain ⟨n1, r, rfl, g1, h⟩ := lf_u8 h
  obtain ⟨n2, r, rfl, g2, h⟩ := lf_u32 h
  obtain ⟨n3, r, rfl, g3, h⟩ := lf_u32 h
  obtain ⟨n4, r, rfl, g4, h⟩ := lf_u32 h
  have h : r = [] := h
  subst h
  exact ⟨⟨k, d, i, s, ⟨n1, n2, n3, n4⟩⟩, rfl, hd, hi, g1, g2, g3, g4⟩

theorem list_of {α : Type} {f : α → List Value} {q : α → Prop} : ∀ (css : List (List Value)), (∀ p ∈ css, ∃ o, f o = p ∧ q o) → ∃ xs : List α, xs.flatMap f = css.flatten ∧ xs.length = css.length ∧ ∀ o ∈ xs, q o
  | [], _ => ⟨[], rfl, rfl, (fun _ h => by cases h)⟩
  | p :: css, h => by
    obtain ⟨o, ho, hq⟩ := h p (List.mem_cons_self ..)
    obtain ⟨xs, h1, h2, h3⟩ := list_of css fun p hp => h p (List.mem_cons_of_mem _ hp)
    refine ⟨o :: xs, by rw [List.flatMap_cons, List.flatten_cons, ho, h1], by simp [h2], fun y hy => ?_⟩
    rcases List.mem_cons.1 hy with rfl | hy
    · exact hq
    · exact h3 y hy

theorem ops_of {r : Reach} {b0 : Nat} {v : Value} {d : DataW H} {p : List MemPlace} (hv : Value.okWide Tryd.prog W r b0 22 v) (h : DataW.Trod enc Tryd.prog W base (fun _ => true) held 22 v d p) :
    ∃ a l c xs e, v = .slice a l c ∧ l ≤ maxLen ∧ OSl (allOf W) e a l c xs ∧ ∀ o ∈ xs, o.ok := by
  obtain ⟨a, l, c, rfl⟩ := okWide_slice Tryd.underlying22 hv
  obtain ⟨n, hn⟩ := h
  obtain ⟨a', l', c', css, e', hcs, hl, hm, hel, hsl⟩ := open_sl (sz := 8) Tryd.underlying22 (by kernel_rfl) hn
  have : a = a' ∧ l = l' ∧ c = c' := by simpa [Value.cells] using hcs
  obtain ⟨rfl, rfl, rfl⟩ := this
  obtain ⟨xs, h1, h2, h3⟩ := list_of (f := Op17.vals) (q := Op17.ok) css fun p hp => by
    obtain ⟨_, m, y, hy⟩ := hel p hp
    exact op_of hy
  exact ⟨a, l, c, xs, e', rfl, hm, ⟨by omega, by rw [h1]; exact hsl⟩, h3⟩
end

end Go.Proofs.YtkhfofnglkekoaaDoor
