/-
  The law WalkHangs stands for every input: what is hung is found under its name, where it was hung, until it is unhung.
  Conditions: none. As the row says: what the listed tables hold is tied to the program's text.
-/
import Derived.Test.YtkhfofnglkekoaaDoorCaW
namespace Go.Proofs.YtkhfofnglkekoaaDoor.walkHangs
open Go.ChangeShapes Go.WideShapes Go.ChangeAt Go.RowKit
set_option maxRecDepth 100000

/-- For every argument and every world. -/
theorem contract (H : Type) (enc : TypeId × Value → H) (W : World) (base : Nat) (args : Array Value) (ds gs : List (DataW H)) (before : List MemPlace)
    (hval : ∀ (j : Nat) t v, Tryd.f4.params[j]? = some t → args[j]? = some v → Value.okWide Tryd.prog W .any base t v)
    (hW : DataW.Whole enc Tryd.prog Tryd.f4.params.toList Rows.walkHangsSpec.vars false W args.toList ds gs before) :
    Calls Tryd.prog 4 args W fun e W' => ∃ v, e = .returned v ∧ Rows.walkHangsSpec.post enc Tryd.prog Tryd.f4 false true false false W args v W' := by
  refine law_post (tb := 4) laidOutB_ (by kernel_rfl) (by kernel_rfl) Tryd.underlying4 rfl (fun ds hl => ?_) hW ?_
  · have hl : ds.length = 4 := hl
    match ds, hl with
    | [d1, d2, d3, d4], _ => rfl
  · obtain ⟨p, q, hA0, hV, _⟩ := hW
    have hA : DataW.TrodAll enc Tryd.prog W 0 (fun _ => true) true Tryd.f4.params.toList args.toList ds p := hA0
    rw [Tryd.params4] at hA hval
    obtain ⟨v0, vs0, d0, ds0, p0, q0, hargs0, rfl, rfl, h0, r0⟩ := trodAll_cons hA
    obtain ⟨v1, vs1, d1, ds1, p1, q1, hargs1, rfl, rfl, h1, r1⟩ := trodAll_cons r0
    obtain ⟨v2, vs2, d2, ds2, p2, q2, hargs2, rfl, rfl, h2, r2⟩ := trodAll_cons r1
    obtain ⟨v3, vs3, d3, ds3, p3, q3, hargs3, rfl, rfl, h3, r3⟩ := trodAll_cons r2
    obtain ⟨rfl, rfl, rfl⟩ := trodAll_nil r3
    subst hargs1
    subst hargs2
    subst hargs3
    obtain rfl : args = #[v0, v1, v2, v3] := by cases args; simp_all
    obtain ⟨a, l, c, xs, e, rfl, _, hs, ho⟩ := ops_of (hval 0 22 v0 rfl rfl) h0
    obtain ⟨x1, rfl, _, _, w1⟩ := open_int Tryd.underlying30 (hval 1 30 v1 rfl rfl) h1
    obtain ⟨x2, rfl, _, _, w2⟩ := open_int Tryd.underlying30 (hval 2 30 v2 rfl rfl) h2
    obtain ⟨s, rfl, _⟩ := Go.ChangeMaps.open_string Tryd.underlying9 (hval 3 9 v3 rfl rfl) h3
    obtain ⟨n1, rfl, b1⟩ := has_u32 (wf_int w1)
    obtain ⟨n2, rfl, b2⟩ := has_u32 (wf_int w2)
    exact ok_WalkHangs hs ho n1 n2 b1 b2 s

/-- A world for the witness: the settled one; the two tables hold what the text lays. -/
noncomputable def laidWorld (os : Os) : World :=
  let w := World.holding Tryd.prog os ⟨#[], #[], []⟩
  { w with heap := (w.heap.modify 1 fun
      | .cells _ t frozen => .cells (lit1 Rows.laid_unicode_utf8_first).toArray t frozen
      | o => o).modify 2 fun
      | .cells _ t frozen => .cells (lit2 Rows.laid_unicode_utf8_acceptRanges).toArray t frozen
      | o => o }
theorem laid_met (os : Os) : laidMet Tryd.prog Rows.walkHangsRow.laid ((laidWorld os).forCall (fun _ _ => 0) ⟨#[], #[.slice none 0 0, .int .u32 0, .int .u32 0, .string E0], []⟩).memory :=
  laidMet_of_run' 8 (by kernel_rfl) (by kernel_rfl)
theorem reads (os : Os) {H : Type} (enc : TypeId × Value → H) : ∃ places, DataW.whole enc Tryd.prog ((laidWorld os).forCall (fun _ _ => 0) ⟨#[], #[.slice none 0 0, .int .u32 0, .int .u32 0, .string E0], []⟩).memory Tryd.f4.params.toList Rows.walkHangsSpec.vars false ((#[.slice none 0 0, .int .u32 0, .int .u32 0, .string E0] : Array Value)).toList 8 = some ([.nil, .lit (.int .u32 0), .lit (.int .u32 0), .lit (.string [])], [], places) :=
  ⟨[], by kernel_rfl⟩

theorem lifted (os : Os) (started : os.Started) (H : Type) (enc : TypeId × Value → H) (F : Stop.Interp) :
    ReturnsInHanded {} Tryd.checked os 4 .any ((OpenSpec.ofChange Rows.walkHangsSpec).preRow enc Tryd.prog Tryd.f4 Rows.walkHangsRow.domain false Rows.walkHangsRow.laid) (((OpenSpec.ofChange Rows.walkHangsSpec).at F).post enc Tryd.prog Tryd.f4 false true false false) := by
  obtain ⟨places, hx⟩ := reads os enc
  refine returnsInHanded_of_row (C := Tryd.checked) (s := OpenSpec.ofChange Rows.walkHangsSpec) own started (by kernel_rfl) Tryd.func4
    (witness_row_at (enc := enc) (C := Tryd.checked) false (laidWorld os) #[.slice none 0 0, .int .u32 0, .int .u32 0, .string E0] rfl (by kernel_rfl) (by kernel_rfl) (by kernel_rfl)
      (OpenSpec.preRow_of_cond 8 hx (by kernel_rfl) (fun k hk => by cases hk) (by kernel_rfl) (laid_met os))) ?_
  intro W base args ds gs before hval hW _ _ _ _ _ _
  exact contract H enc W base args ds gs before hval hW

theorem said : Rows.WalkHangsSaid :=
  OpenClaim.holds_of_cond 4 Tryd.f4 rfl rfl rfl rfl rfl rfl rfl ⟨rfl, rfl, rfl, rfl, rfl⟩ rfl rfl rfl rfl rfl (by kernel_rfl) Tryd.func4 (by kernel_rfl)
    (of_decide_eq_true (by kernel_rfl)) (by unfold Func.isWrapper; first | (rw [if_pos (by decide +kernel)]; kernel_rfl) | (rw [if_neg (by decide +kernel)]; exact ⟨rfl, rfl⟩))
    (fun os started H enc _ F => by rw [OpenClaim.pre_eq_preRow]; exact lifted os started H enc F)

/-- No parameter wants a stand-in; the program's own looks are off. -/
theorem plain (f : FuncId) (fn : Func) (hf : Tryd.pinned.checked.prog.funcNamed "flint/flintlaw17.WalkHangs" = some f) (hfn : Tryd.pinned.checked.prog.funcs[f]? = some fn) :
    false = Tryd.pinned.checked.prog.looks [] ∧ ∀ (j : Nat) t, fn.params[j]? = some t → Tryd.pinned.checked.prog.wantsStandIn t = false := by
  obtain rfl : f = 4 := Option.some.inj ((show Tryd.prog.funcNamed "flint/flintlaw17.WalkHangs" = some 4 by kernel_rfl).symm.trans hf) |>.symm
  obtain rfl : fn = Tryd.f4 := (Option.some.inj (Tryd.func4.symm.trans hfn)).symm
  refine ⟨by kernel_rfl, fun j t ht => ?_⟩
  rw [Tryd.params4] at ht
  have hm := Array.mem_of_getElem? ht
  have : t = 22 ∨ t = 30 ∨ t = 9 := by simpa using hm
  rcases this with rfl | rfl | rfl
  · exact (show Tryd.prog.wantsStandIn 22 = false by kernel_rfl)
  · exact (show Tryd.prog.wantsStandIn 30 = false by kernel_rfl)
  · exact (show Tryd.prog.wantsStandIn 9 = false by kernel_rfl)

theorem card : Rows.WalkHangsCardSaid :=
  Claim7.holds_tied_plain_at .later [] _ _ _ _ said (fun _ h => by cases h) (by kernel_rfl) (fun _ h => by cases h) walkHangs_row_tie rfl ⟨rfl, rfl⟩ (by kernel_rfl) rfl plain (by kernel_rfl)
end Go.Proofs.YtkhfofnglkekoaaDoor.walkHangs
