/- The program's side of the formulas: its types, which functions have bodies, which structs are compared. Made by a program of this session's (mk.py). Conditions: none. -/
import Derived.Test.YtkhfofnglkekoaaDoorVcZd
import Derived.Test.YtkhfofnglkekoaaDoorProg
import Derived.KernelRfl
namespace Go.Proofs.YtkhfofnglkekoaaDoor
def tyL : List (Nat × TI) := [
  (0, ⟨.tuple [], 1, 8, [], []⟩),
  (3, ⟨.int .i64, 1, 8, [.int .i64], [.int .i64 0]⟩),
  (4, ⟨.bool, 1, 1, [.bool], [.bool false]⟩),
  (5, ⟨.int .u8, 1, 1, [.int .u8], [.int .u8 0]⟩),
  (9, ⟨.str, 1, 16, [.str], [.string E0]⟩),
  (21, ⟨.int .i32, 1, 4, [.int .i32], [.int .i32 0]⟩),
  (22, ⟨.slice 34, 1, 24, [.slice], [.slice none 0 0]⟩),
  (24, ⟨.ptr, 1, 8, [.ptr], [.pointer none]⟩),
  (26, ⟨.ptr, 1, 8, [.ptr], [.pointer none]⟩),
  (28, ⟨.slice 61, 1, 24, [.slice], [.slice none 0 0]⟩),
  (30, ⟨.int .u32, 1, 4, [.int .u32], [.int .u32 0]⟩),
  (32, ⟨.struct [0, 1, 2, 3] [5, 30, 30, 30], 4, 16, [.int .u8, .int .u32, .int .u32, .int .u32], [.int .u8 0, .int .u32 0, .int .u32 0, .int .u32 0]⟩),
  (34, ⟨.struct [0, 1, 2, 3, 4] [3, 30, 30, 9, 32], 8, 48, [.int .i64, .int .u32, .int .u32, .str, .int .u8, .int .u32, .int .u32, .int .u32], [.int .i64 0, .int .u32 0, .int .u32 0, .string E0, .int .u8 0, .int .u32 0, .int .u32 0, .int .u32 0]⟩),
  (37, ⟨.struct [0, 1, 2, 3] [30, 9, 30, 32], 7, 48, [.int .u32, .str, .int .u32, .int .u8, .int .u32, .int .u32, .int .u32], [.int .u32 0, .string E0, .int .u32 0, .int .u8 0, .int .u32 0, .int .u32 0, .int .u32 0]⟩),
  (38, ⟨.int .i64, 1, 8, [.int .i64], [.int .i64 0]⟩),
  (39, ⟨.tuple [37, 38], 1, 8, [], []⟩),
  (41, ⟨.map 9 4, 1, 8, [.map], [.map none]⟩),
  (42, ⟨.slice 9, 1, 24, [.slice], [.slice none 0 0]⟩),
  (48, ⟨.tuple [30, 4], 1, 8, [], []⟩),
  (55, ⟨.slice 56, 1, 24, [.slice], [.slice none 0 0]⟩),
  (56, ⟨.array 2 9, 2, 32, [.str, .str], [.string E0, .string E0]⟩),
  (58, ⟨.map 9 3, 1, 8, [.map], [.map none]⟩),
  (61, ⟨.struct [0, 1, 2] [9, 9, 4], 3, 40, [.str, .str, .bool], [.string E0, .string E0, .bool false]⟩),
  (62, ⟨.tuple [61, 4], 1, 8, [], []⟩),
  (64, ⟨.slice 5, 1, 24, [.slice], [.slice none 0 0]⟩),
  (66, ⟨.slice 97, 1, 24, [.slice], [.slice none 0 0]⟩),
  (67, ⟨.tuple [66, 38], 1, 8, [], []⟩),
  (71, ⟨.struct [0, 1, 2, 3, 4] [26, 26, 26, 26, 55], 5, 56, [.ptr, .ptr, .ptr, .ptr, .slice], [.pointer none, .pointer none, .pointer none, .pointer none, .slice none 0 0]⟩),
  (78, ⟨.tuple [42, 38], 1, 8, [], []⟩),
  (80, ⟨.tuple [32, 4], 1, 8, [], []⟩),
  (85, ⟨.int .u64, 1, 8, [.int .u64], [.int .u64 0]⟩),
  (86, ⟨.tuple [9, 4], 1, 8, [], []⟩),
  (88, ⟨.tuple [85, 3, 38], 1, 8, [], []⟩),
  (90, ⟨.fn, 1, 8, [.fn], [.nilFunc]⟩),
  (91, ⟨.tuple [9, 9], 1, 8, [], []⟩),
  (94, ⟨.tuple [5, 30, 9, 3], 1, 8, [], []⟩),
  (97, ⟨.struct [0, 1, 2, 3, 4, 5, 6] [5, 9, 9, 3, 3, 3, 64], 7, 88, [.int .u8, .str, .str, .int .i64, .int .i64, .int .i64, .slice], [.int .u8 0, .string E0, .string E0, .int .i64 0, .int .i64 0, .int .i64 0, .slice none 0 0]⟩),
  (100, ⟨.struct [0, 1, 2, 3, 4, 5] [9, 9, 26, 26, 3, 3], 6, 64, [.str, .str, .ptr, .ptr, .int .i64, .int .i64], [.string E0, .string E0, .pointer none, .pointer none, .int .i64 0, .int .i64 0]⟩),
  (102, ⟨.ptr, 1, 8, [.ptr], [.pointer none]⟩),
  (103, ⟨.map 30 9, 1, 8, [.map], [.map none]⟩),
  (105, ⟨.struct [0, 1, 2] [24, 103, 64], 3, 40, [.ptr, .map, .slice], [.pointer none, .map none, .slice none 0 0]⟩),
  (107, ⟨.tuple [66, 3, 38], 1, 8, [], []⟩),
  (121, ⟨.tuple [85, 3, 3], 1, 8, [], []⟩),
  (124, ⟨.ptr, 1, 8, [.ptr], [.pointer none]⟩),
  (126, ⟨.struct [0, 1, 2, 3] [64, 3, 38, 66], 4, 64, [.slice, .int .i64, .int .i64, .slice], [.slice none 0 0, .int .i64 0, .int .i64 0, .slice none 0 0]⟩),
  (127, ⟨.array 3 30, 3, 12, [.int .u32, .int .u32, .int .u32], [.int .u32 0, .int .u32 0, .int .u32 0]⟩),
  (134, ⟨.tuple [64, 38], 1, 8, [], []⟩),
  (144, ⟨.tuple [32, 38], 1, 8, [], []⟩),
  (147, ⟨.tuple [9, 3, 38], 1, 8, [], []⟩),
  (154, ⟨.tuple [21, 3], 1, 8, [], []⟩),
  (157, ⟨.slice 159, 1, 24, [.slice], [.slice none 0 0]⟩),
  (159, ⟨.array 3 3, 3, 24, [.int .i64, .int .i64, .int .i64], [.int .i64 0, .int .i64 0, .int .i64 0]⟩),
  (163, ⟨.array 256 5, 256, 256, [.int .u8, .int .u8, .int .u8, .int .u8, .int .u8, .int .u8, .int .u8, .int .u8, .int .u8, .int .u8, .int .u8, .int .u8, .int .u8, .int .u8, .int .u8, .int .u8, .int .u8, .int .u8, .int .u8, .int .u8, .int .u8, .int .u8, .int .u8, .int .u8, .int .u8, .int .u8, .int .u8, .int .u8, .int .u8, .int .u8, .int .u8, .int .u8, .int .u8, .int .u8, .int .u8, .int .u8, .int .u8, .int .u8, .int .u8, .int .u8, .int .u8, .int .u8, .int .u8, .int .u8, .int .u8, .int .u8, .int .u8, .int .u8, .int .u8, .int .u8, .int .u8, .int .u8, .int .u8, .int .u8, .int .u8, .int .u8, .int .u8, .int .u8, .int .u8, .int .u8, .int .u8, .int .u8, .int .u8, .int .u8, .int .u8, .int .u8, .int .u8, .int .u8, .int .u8, .int .u8, .int .u8, .int .u8, .int .u8, .int .u8, .int .u8, .int .u8, .int .u8, .int .u8, .int .u8, .int .u8, .int .u8, .int .u8, .int .u8, .int .u8, .int .u8, .int .u8, .int .u8, .int .u8, .int .u8, .int .u8, .int .u8, .int .u8, .int .u8, .int .u8, .int .u8, .int .u8, .int .u8, .int .u8, .int .u8, .int .u8, .int .u8, .int .u8, .int .u8, .int .u8, .int .u8, .int .u8, .int .u8, .int .u8, .int .u8, .int .u8, .int .u8, .int .u8, .int .u8, .int .u8, .int .u8, .int .u8, .int .u8, .int .u8, .int .u8, .int .u8, .int .u8, .int .u8, .int .u8, .int .u8, .int .u8, .int .u8, .int .u8, .int .u8, .int .u8, .int .u8, .int .u8, .int .u8, .int .u8, .int .u8, .int .u8, .int .u8, .int .u8, .int .u8, .int .u8, .int .u8, .int .u8, .int .u8, .int .u8, .int .u8, .int .u8, .int .u8, .int .u8, .int .u8, .int .u8, .int .u8, .int .u8, .int .u8, .int .u8, .int .u8, .int .u8, .int .u8, .int .u8, .int .u8, .int .u8, .int .u8, .int .u8, .int .u8, .int .u8, .int .u8, .int .u8, .int .u8, .int .u8, .int .u8, .int .u8, .int .u8, .int .u8, .int .u8, .int .u8, .int .u8, .int .u8, .int .u8, .int .u8, .int .u8, .int .u8, .int .u8, .int .u8, .int .u8, .int .u8, .int .u8, .int .u8, .int .u8, .int .u8, .int .u8, .int .u8, .int .u8, .int .u8, .int .u8, .int .u8, .int .u8, .int .u8, .int .u8, .int .u8, .int .u8, .int .u8, .int .u8, .int .u8, .int .u8, .int .u8, .int .u8, .int .u8, .int .u8, .int .u8, .int .u8, .int .u8, .int .u8, .int .u8, .int .u8, .int .u8, .int .u8, .int .u8, .int .u8, .int .u8, .int .u8, .int .u8, .int .u8, .int .u8, .int .u8, .int .u8, .int .u8, .int .u8, .int .u8, .int .u8, .int .u8, .int .u8, .int .u8, .int .u8, .int .u8, .int .u8, .int .u8, .int .u8, .int .u8, .int .u8, .int .u8, .int .u8, .int .u8, .int .u8, .int .u8, .int .u8, .int .u8, .int .u8, .int .u8, .int .u8, .int .u8, .int .u8, .int .u8, .int .u8, .int .u8, .int .u8, .int .u8, .int .u8, .int .u8], [.int .u8 0, .int .u8 0, .int .u8 0, .int .u8 0, .int .u8 0, .int .u8 0, .int .u8 0, .int .u8 0, .int .u8 0, .int .u8 0, .int .u8 0, .int .u8 0, .int .u8 0, .int .u8 0, .int .u8 0, .int .u8 0, .int .u8 0, .int .u8 0, .int .u8 0, .int .u8 0, .int .u8 0, .int .u8 0, .int .u8 0, .int .u8 0, .int .u8 0, .int .u8 0, .int .u8 0, .int .u8 0, .int .u8 0, .int .u8 0, .int .u8 0, .int .u8 0, .int .u8 0, .int .u8 0, .int .u8 0, .int .u8 0, .int .u8 0, .int .u8 0, .int .u8 0, .int .u8 0, .int .u8 0, .int .u8 0, .int .u8 0, .int .u8 0, .int .u8 0, .int .u8 0, .int .u8 0, .int .u8 0, .int .u8 0, .int .u8 0, .int .u8 0, .int .u8 0, .int .u8 0, .int .u8 0, .int .u8 0, .int .u8 0, .int .u8 0, .int .u8 0, .int .u8 0, .int .u8 0, .int .u8 0, .int .u8 0, .int .u8 0, .int .u8 0, .int .u8 0, .int .u8 0, .int .u8 0, .int .u8 0, .int .u8 0, .int .u8 0, .int .u8 0, .int .u8 0, .int .u8 0, .int .u8 0, .int .u8 0, .int .u8 0, .int .u8 0, .int .u8 0, .int .u8 0, .int .u8 0, .int .u8 0, .int .u8 0, .int .u8 0, .int .u8 0, .int .u8 0, .int .u8 0, .int .u8 0, .int .u8 0, .int .u8 0, .int .u8 0, .int .u8 0, .int .u8 0, .int .u8 0, .int .u8 0, .int .u8 0, .int .u8 0, .int .u8 0, .int .u8 0, .int .u8 0, .int .u8 0, .int .u8 0, .int .u8 0, .int .u8 0, .int .u8 0, .int .u8 0, .int .u8 0, .int .u8 0, .int .u8 0, .int .u8 0, .int .u8 0, .int .u8 0, .int .u8 0, .int .u8 0, .int .u8 0, .int .u8 0, .int .u8 0, .int .u8 0, .int .u8 0, .int .u8 0, .int .u8 0, .int .u8 0, .int .u8 0, .int .u8 0, .int .u8 0, .int .u8 0, .int .u8 0, .int .u8 0, .int .u8 0, .int .u8 0, .int .u8 0, .int .u8 0, .int .u8 0, .int .u8 0, .int .u8 0, .int .u8 0, .int .u8 0, .int .u8 0, .int .u8 0, .int .u8 0, .int .u8 0, .int .u8 0, .int .u8 0, .int .u8 0, .int .u8 0, .int .u8 0, .int .u8 0, .int .u8 0, .int .u8 0, .int .u8 0, .int .u8 0, .int .u8 0, .int .u8 0, .int .u8 0, .int .u8 0, .int .u8 0, .int .u8 0, .int .u8 0, .int .u8 0, .int .u8 0, .int .u8 0, .int .u8 0, .int .u8 0, .int .u8 0, .int .u8 0, .int .u8 0, .int .u8 0, .int .u8 0, .int .u8 0, .int .u8 0, .int .u8 0, .int .u8 0, .int .u8 0, .int .u8 0, .int .u8 0, .int .u8 0, .int .u8 0, .int .u8 0, .int .u8 0, .int .u8 0, .int .u8 0, .int .u8 0, .int .u8 0, .int .u8 0, .int .u8 0, .int .u8 0, .int .u8 0, .int .u8 0, .int .u8 0, .int .u8 0, .int .u8 0, .int .u8 0, .int .u8 0, .int .u8 0, .int .u8 0, .int .u8 0, .int .u8 0, .int .u8 0, .int .u8 0, .int .u8 0, .int .u8 0, .int .u8 0, .int .u8 0, .int .u8 0, .int .u8 0, .int .u8 0, .int .u8 0, .int .u8 0, .int .u8 0, .int .u8 0, .int .u8 0, .int .u8 0, .int .u8 0, .int .u8 0, .int .u8 0, .int .u8 0, .int .u8 0, .int .u8 0, .int .u8 0, .int .u8 0, .int .u8 0, .int .u8 0, .int .u8 0, .int .u8 0, .int .u8 0, .int .u8 0, .int .u8 0, .int .u8 0, .int .u8 0, .int .u8 0, .int .u8 0, .int .u8 0, .int .u8 0, .int .u8 0, .int .u8 0, .int .u8 0, .int .u8 0, .int .u8 0, .int .u8 0, .int .u8 0, .int .u8 0, .int .u8 0, .int .u8 0, .int .u8 0, .int .u8 0, .int .u8 0, .int .u8 0, .int .u8 0, .int .u8 0, .int .u8 0, .int .u8 0, .int .u8 0, .int .u8 0, .int .u8 0, .int .u8 0, .int .u8 0, .int .u8 0]⟩),
  (165, ⟨.struct [0, 1] [5, 5], 2, 2, [.int .u8, .int .u8], [.int .u8 0, .int .u8 0]⟩),
  (166, ⟨.array 16 165, 32, 32, [.int .u8, .int .u8, .int .u8, .int .u8, .int .u8, .int .u8, .int .u8, .int .u8, .int .u8, .int .u8, .int .u8, .int .u8, .int .u8, .int .u8, .int .u8, .int .u8, .int .u8, .int .u8, .int .u8, .int .u8, .int .u8, .int .u8, .int .u8, .int .u8, .int .u8, .int .u8, .int .u8, .int .u8, .int .u8, .int .u8, .int .u8, .int .u8], [.int .u8 0, .int .u8 0, .int .u8 0, .int .u8 0, .int .u8 0, .int .u8 0, .int .u8 0, .int .u8 0, .int .u8 0, .int .u8 0, .int .u8 0, .int .u8 0, .int .u8 0, .int .u8 0, .int .u8 0, .int .u8 0, .int .u8 0, .int .u8 0, .int .u8 0, .int .u8 0, .int .u8 0, .int .u8 0, .int .u8 0, .int .u8 0, .int .u8 0, .int .u8 0, .int .u8 0, .int .u8 0, .int .u8 0, .int .u8 0, .int .u8 0, .int .u8 0]⟩),
  (167, ⟨.tuple [30, 30], 1, 8, [], []⟩)]
def tyOf (t : Nat) : TI := lookT tyL t
def fnsOk (f : Nat) : Bool := Nat.blt 2 f && (Nat.ble f 135 && !memN f [100, 107, 112, 114, 115, 116, 117, 118, 119, 120, 121, 122, 123, 124, 125, 126, 127, 128, 129, 130, 131, 132, 133, 134])
def eqtOk (t : Nat) : Bool := memN t [37, 56]
def extOk (f : Nat) : Nat := (lookN [(100, 1), (112, 2)] f).getD 0
noncomputable def cxOf (ow : List (Nat × Nat)) : Cx := ⟨Tryd.prog, tyOf, ow, fnsOk, eqtOk, extOk⟩
theorem tokP : TOk Tryd.prog tyOf := tok_of (l := tyL) (by kernel_rfl) (by kernel_rfl) (by kernel_rfl)
theorem fnsP : ∀ f, fnsOk f = true → ∃ fn, Tryd.prog.funcs[f]? = some fn ∧ fn.body.isNone = false ∧ (fn.name == "runtime.NumGoroutine") = false := by
  refine fns_of (n := 136) (by kernel_rfl) fun f hf => ?_
  unfold fnsOk at hf
  simp only [Bool.and_eq_true] at hf
  have := Nat.le_of_ble_eq_true hf.2.1
  omega
theorem extP100 : ∃ fn, Tryd.prog.funcs[100]? = some fn ∧ fn.body.isNone = true ∧ (fn.name == "runtime.NumGoroutine") = false ∧ Extern.findNext fn = none ∧ Extern.find fn = some (extF 1) := ⟨Tryd.f100, Tryd.func100, by kernel_rfl, by kernel_rfl, by kernel_rfl, by kernel_rfl⟩
theorem extP112 : ∃ fn, Tryd.prog.funcs[112]? = some fn ∧ fn.body.isNone = true ∧ (fn.name == "runtime.NumGoroutine") = false ∧ Extern.findNext fn = none ∧ Extern.find fn = some (extF 2) := ⟨Tryd.f112, Tryd.func112, by kernel_rfl, by kernel_rfl, by kernel_rfl, by kernel_rfl⟩
theorem lookN_cases : ∀ (l : List (Nat × Nat)) (f k : Nat), (lookN l f).getD 0 = k → k ≠ 0 → (f, k) ∈ l := by
  intro l f k h hk
  cases hl : lookN l f with
  | none => rw [hl] at h; exact absurd h.symm hk
  | some j => rw [hl] at h; cases h; exact lookN_mem l f _ hl
theorem extP : ∀ f, extOk f ≠ 0 → ∃ fn, Tryd.prog.funcs[f]? = some fn ∧ fn.body.isNone = true ∧ (fn.name == "runtime.NumGoroutine") = false ∧ Extern.findNext fn = none ∧ Extern.find fn = some (extF (extOk f)) := by
  intro f hf
  have hm := lookN_cases [(100, 1), (112, 2)] f _ rfl hf
  simp only [List.mem_cons, List.not_mem_nil, or_false, Prod.mk.injEq] at hm
  rcases hm with ⟨rfl, _⟩ | ⟨rfl, _⟩
  · exact extP100
  · exact extP112
theorem eqtP : ∀ t, eqtOk t = true → ∀ xs ys h, hasShs (tyOf t).sh xs.toList = true → hasShs (tyOf t).sh ys.toList = true → ∀ a b,
    wpH Tryd.prog (do eqGuard .eql t a b (.agg xs) (.agg ys); binOp .eql t (.agg xs) (.agg ys)) (fun v h' => v = .bool (aggEq xs.toList ys.toList) ∧ h' = h) h ∧
    wpH Tryd.prog (do eqGuard .neq t a b (.agg xs) (.agg ys); binOp .neq t (.agg xs) (.agg ys)) (fun v h' => v = .bool (!aggEq xs.toList ys.toList) ∧ h' = h) h := by
  intro t ht xs ys h hx hy a b
  have hm := memN_mem ht
  simp only [List.mem_cons, List.not_mem_nil, or_false] at hm
  rcases hm with rfl | rfl
  · exact (eqt_of (P := Tryd.prog) (t := 37) (ss := [.int .u32, .str, .int .u32, .int .u8, .int .u32, .int .u32, .int .u32]) (by kernel_rfl) (fun xa ya hx hy => po_struct2 (fs := Tryd.prog.fieldsOf 37) (sg := [(false, [.int .u32]), (false, [.str]), (false, [.int .u32]), (true, [.int .u8, .int .u32, .int .u32, .int .u32])]) (by kernel_rfl) (by kernel_rfl) (by kernel_rfl) hx hy 9997)) xs ys h hx hy a b
  · exact (eqt_of (P := Tryd.prog) (t := 56) (ss := [.str, .str]) (by kernel_rfl) (fun xa ya hx hy => po_array (n := 2) (e := 9) (s := .str) (by kernel_rfl) (by kernel_rfl) (by kernel_rfl) rfl hx hy 9998)) xs ys h hx hy a b
theorem cokP (ow : List (Nat × Nat)) : CxOk (cxOf ow) := ⟨tokP, by kernel_rfl, fnsP, extP, eqtP⟩
theorem vcFn_calls (ow : List (Nat × Nat)) {f : Nat} {fn : Func} (hf : Tryd.prog.funcs[f]? = some fn) (an : Ann) (args : List Value) {h : Hp} {R : Value → Hp → Prop} (H : vcFn (cxOf ow) fn an args h R) : FnH Tryd.prog f args.toArray h R := vcFn_sound (cokP ow) hf an args H
abbrev N_flintlaw17_WalkReads : Nat := 3
abbrev N_flintlaw17_WalkHangs : Nat := 4
abbrev N_flintlaw28_ArkAny : Nat := 5
abbrev N_flintlaw17_fixed : Nat := 6
abbrev N_view_New : Nat := 7
abbrev N_tree_New : Nat := 8
abbrev N_flintlaw17_cut : Nat := 9
abbrev N_flintlaw17_do : Nat := 10
abbrev N_walk_Find : Nat := 11
abbrev N_view_View_Reads : Nat := 12
abbrev N_flintref09_Inode : Nat := 13
abbrev N_flintref09_Entry : Nat := 14
abbrev N_walk_Hang : Nat := 15
abbrev N_walk_Child : Nat := 16
abbrev N_walk_Unhang : Nat := 17
abbrev N_walk_List : Nat := 18
abbrev N_flintref17_List : Nat := 19
abbrev N_flintref10_Cut : Nat := 20
abbrev N_flintlaw28_fixed : Nat := 21
abbrev N_tree_Tree_Set : Nat := 22
abbrev N_tree_Tree_Len : Nat := 23
abbrev N_tree_Tree_At : Nat := 24
abbrev N_ark_Save : Nat := 25
abbrev N_ark_Load : Nat := 26
abbrev N_walk_Save : Nat := 27
abbrev N_flintref17_Save : Nat := 28
abbrev N_walk_Drop : Nat := 29
abbrev N_flintref17_Hang : Nat := 30
abbrev N_view_View_Set : Nat := 31
abbrev N_flintref10_Set : Nat := 32
abbrev N_names_Split : Nat := 33
abbrev N_walk_Load : Nat := 34
abbrev N_view_all : Nat := 35
abbrev N_flintref09_of : Nat := 36
abbrev N_keys_Entry : Nat := 37
abbrev N_pack_Put : Nat := 38
abbrev N_view_View_Get : Nat := 39
abbrev N_pack_Get : Nat := 40
abbrev N_view_View_Cut : Nat := 41
abbrev N_keys_Entries : Nat := 42
abbrev N_view_View_Range : Nat := 43
abbrev N_flintref09_Split : Nat := 44
abbrev N_ark_Count : Nat := 45
abbrev N_tree_Tree_join : Nat := 46
abbrev N_ark_saver_dir : Nat := 47
abbrev N_ark_load : Nat := 48
abbrev N_keys_Inode : Nat := 49
abbrev N_node_Put : Nat := 50
abbrev N_flintref15_Put : Nat := 51
abbrev N_flintref03_Put : Nat := 52
abbrev N_view_View_room : Nat := 53
abbrev N_strings_Split : Nat := 54
abbrev N_names_may : Nat := 55
abbrev N_node_Root : Nat := 56
abbrev N_node_Get : Nat := 57
abbrev N_keys_of : Nat := 58
abbrev N_pack_wide : Nat := 59
abbrev N_pack_own : Nat := 60
abbrev N_tree_Tree_Get : Nat := 61
abbrev N_tree_Tree_Cut : Nat := 62
abbrev N_keys_behind : Nat := 63
abbrev N_slices_Contains_2_string_2_string : Nat := 64
abbrev N_tree_Tree_Range : Nat := 65
abbrev N_flintref03_Get : Nat := 66
abbrev N_tree_Tree_with : Nat := 67
abbrev N_tree_Tree_lean : Nat := 68
abbrev N_tree_Tree_turnLeft : Nat := 69
abbrev N_tree_Tree_turnRight : Nat := 70
abbrev N_ark_saver_entry : Nat := 71
abbrev N_ark_loader_part : Nat := 72
abbrev N_flintref03_wide : Nat := 73
abbrev N_strings_genSplit : Nat := 74
abbrev N_slices_ContainsFunc_string_string : Nat := 75
abbrev N_names_may_1 : Nat := 76
abbrev N_keys_Name : Nat := 77
abbrev N_node_New : Nat := 78
abbrev N_node_May : Nat := 79
abbrev N_slices_Index_2_string_2_string : Nat := 80
abbrev N_tree_Tree_High : Nat := 81
abbrev N_pack_PutText : Nat := 82
abbrev N_files_All : Nat := 83
abbrev N_ark_loader_fails : Nat := 84
abbrev N_ark_loader_path : Nat := 85
abbrev N_ark_loader_does : Nat := 86
abbrev N_ark_loader_file : Nat := 87
abbrev N_ark_loader_data : Nat := 88
abbrev N_strings_explode : Nat := 89
abbrev N_strings_Count : Nat := 90
abbrev N_strings_Index : Nat := 91
abbrev N_slices_IndexFunc_string_string : Nat := 92
abbrev N_files_load : Nat := 93
abbrev N_files_bytesOf : Nat := 94
abbrev N_pack_GetText : Nat := 95
abbrev N_slices_Chunk_byte_byte : Nat := 96
abbrev N_slices_Clone_byte_byte : Nat := 97
abbrev N_unicode_utf8_RuneCountInString : Nat := 98
abbrev N_unicode_utf8_DecodeRuneInString : Nat := 99
abbrev N_internal_bytealg_CountString : Nat := 100
abbrev N_internal_stringslite_Index : Nat := 101
abbrev N_node_Cut : Nat := 102
abbrev N_files_block : Nat := 103
abbrev N_slices_Chunk_byte_byte_1 : Nat := 104
abbrev N_unicode_utf8_decodeRuneInStringSlow : Nat := 105
abbrev N_internal_stringslite_IndexByte : Nat := 106
abbrev N_internal_bytealg_IndexString : Nat := 107
abbrev N_internal_bytealg_Cutover : Nat := 108
abbrev N_internal_bytealg_IndexRabinKarp_string : Nat := 109
abbrev N_view_View_Look : Nat := 110
abbrev N_keys_Block : Nat := 111
abbrev N_internal_bytealg_IndexByteString : Nat := 112
abbrev N_internal_bytealg_hashStr_string : Nat := 113
abbrev N_runtime_boundsError_Error : Nat := 114
abbrev N_runtime_boundsError_RuntimeError : Nat := 115
abbrev N_runtime_errorString_Error : Nat := 116
abbrev N_runtime_errorString_RuntimeError : Nat := 117
abbrev N_runtime_plainError_Error : Nat := 118
abbrev N_runtime_plainError_RuntimeError : Nat := 119
abbrev N_runtime_errorAddressString_Error : Nat := 120
abbrev N_runtime_errorAddressString_RuntimeError : Nat := 121
abbrev N_runtime_TypeAssertionError_Error : Nat := 122
abbrev N_runtime_TypeAssertionError_RuntimeError : Nat := 123
abbrev N_runtime_PanicNilError_Error : Nat := 124
abbrev N_runtime_PanicNilError_RuntimeError : Nat := 125
abbrev N_internal_abi_Type_Align : Nat := 126
abbrev N_internal_runtime_maps_unhashableTypeError_Error : Nat := 127
abbrev N_internal_runtime_maps_unhashableTypeError_RuntimeError : Nat := 128
abbrev N_api_Errno_Error : Nat := 129
abbrev N_internal_abi_Kind_String : Nat := 130
abbrev N_var_s_door_gosem_cut_vars_holds_initialisers_alone_see_the_manifest_s_row_cutvarsword_look_11_test_files_too : Nat := 131
abbrev N_var_s_door_the_look_of_gosem_cut_vars_went_over_the_folder_that_the_caller_named_as_the_repository_s_root_look_11 : Nat := 132
abbrev N_var_s_door_unicode_utf8_acceptRanges_is_laid_by_its_own_initialiser_plain_data_look_11 : Nat := 133
abbrev N_var_s_door_unicode_utf8_first_is_laid_by_its_text_alone_pinned_1 : Nat := 134
abbrev N_gosem_cut_vars : Nat := 135
abbrev T_int : Nat := 3
abbrev T_uint8 : Nat := 5
abbrev T_string : Nat := 9
abbrev T_a2_string : Nat := 56
abbrev T_api_Pair : Nat := 61
abbrev T_sl_uint8 : Nat := 64
abbrev T_view_View : Nat := 71
abbrev T_api_Op : Nat := 97
abbrev T_tree_Tree : Nat := 100
abbrev T_ark_saver : Nat := 105
abbrev T_ark_loader : Nat := 126
abbrev T_a3_uint32 : Nat := 127
abbrev T_a3_int : Nat := 159

end Go.Proofs.YtkhfofnglkekoaaDoor
