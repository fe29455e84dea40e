/- Own verification-condition framework, part K: operations on memory, the second half. Conditions: none. -/
import Derived.Test.YtkhfofnglkekoaaDoorVcJ
namespace Go.Proofs.YtkhfofnglkekoaaDoor

section
variable {cx : Cx} {adr : Nat → Nat} {ρ : Operand → Value} {σ : Env} {h : Hp} {K : Value → Hp → Prop}
  {dst : Option Tmp} {ty : TypeId} {pos : String} {after : Array Edge} {guard : Option (Nat × Bool)}

theorem ek_v {P : Program} {s : Sem Value} (H : wpH P s K h) : wpH P (do pure (Next.value (← s))) (EK P K) h := wpH_v H

theorem new_row {P : Program} {o : Obj} {K2 : Addr → Hp → Prop} {c : Array Value} {e : TypeId} (ho : o = .cells c e (0, 0)) (H : HNew h o fun b h' => K2 ⟨b, 0, none⟩ h') : wpH P (newRow e c) K2 h := by
  subst ho
  unfold newRow
  refine wpH_b ?_
  exact fun b hb => H b hb

theorem e_box (hc : ∀ x, tmOk adr (opnd σ x) (ρ x)) {e : TypeId} {x : Operand} (H : vcE cx ⟨dst, .box e x, ty, pos, after, guard⟩ K σ h) : wpH cx.P (execOp ρ ⟨dst, .box e x, ty, pos, after, guard⟩) (EK cx.P K) h := by
  simp only [vcE] at H
  cases hx : opnd σ x <;> rw [hx] at H <;> try exact False.elim H
  rename_i v
  simp only at H
  cases hcs : cellsO (cx.T e).kind.agg v <;> rw [hcs] at H <;> try exact False.elim H
  rename_i cs
  refine ek_v ?_
  unfold Instr.box newVar
  refine wpH_b (new_row ?_ H)
  have : (ρ x).cells = cs.toArray := by apply Array.ext'; rw [q_val hc hx, cellsO_ok hcs]
  rw [this]

theorem e_alloc (tok : TOk cx.P cx.T) {e : TypeId} (H : vcE cx ⟨dst, .alloc e, ty, pos, after, guard⟩ K σ h) : wpH cx.P (execOp ρ ⟨dst, .alloc e, ty, pos, after, guard⟩) (EK cx.P K) h := by
  simp only [vcE] at H
  cases hk : (cx.T e).kind.val <;> rw [hk] at H <;> try exact False.elim H
  refine ek_v ?_
  unfold Instr.alloc
  refine wpH_b (tok.zero hk ?_)
  dsimp only
  refine wpH_b ?_
  unfold newVar
  refine new_row ?_ H
  have : (mkV (cx.T e).kind.agg (cx.T e).zero).cells = (cx.T e).zero.toArray := by apply Array.ext'; rw [tok.zcells hk]
  rw [this]

theorem e_store (tok : TOk cx.P cx.T) (hc : ∀ x, tmOk adr (opnd σ x) (ρ x)) {t : TypeId} {x v : Operand} (H : vcE cx ⟨dst, .store t x v, ty, pos, after, guard⟩ K σ h) :
    wpH cx.P (execOp ρ ⟨dst, .store t x v, ty, pos, after, guard⟩) (EK cx.P K) h := by
  simp only [vcE] at H
  split at H <;> try exact False.elim H
  rename_i a u hx hv
  cases hcs : cellsO (cx.T t).kind.agg u <;> rw [hcs] at H <;> try exact False.elim H
  rename_i cs
  simp only at H
  split at H <;> try exact False.elim H
  rename_i hb
  simp only [Bool.and_eq_true] at hb
  obtain ⟨h1, h2, h3⟩ := hb
  have hlen := Nat.eq_of_beq_eq_true h1
  simp only [execOp]
  refine wpH_b ?_
  unfold Instr.storeAt
  rw [q_val hc hx, q_val hc hv]
  refine wpH_b ?_
  unfold Instr.sureAddr
  refine wpH_p ?_
  unfold storeVar
  refine wpH_b (tok.size h3 ?_)
  have hcu := cellsO_ok hcs
  have hsz : u.cells.size = (cx.T t).size := by rw [← hlen, ← hcu]; simp
  rw [if_neg (by simp [hsz]), hcu]
  exact wpH_HSt h2 H fun h' hk => hk

theorem e_buildSlice (tok : TOk cx.P cx.T) (hc : ∀ x, tmOk adr (opnd σ x) (ρ x)) {t : TypeId} {n : Nat} {ps : Array (Nat × Operand)} (H : vcE cx ⟨dst, .buildSlice t n ps, ty, pos, after, guard⟩ K σ h) :
    wpH cx.P (execOp ρ ⟨dst, .buildSlice t n ps, ty, pos, after, guard⟩) (EK cx.P K) h := by
  simp only [vcE] at H
  split at H <;> try exact False.elim H
  rename_i vs e hp hk
  have hps : (ps.map fun (i, x) => (i, ρ x)).toList = vs := by rw [Array.toList_map]; exact parts_ok hc _ _ hp
  cases hb : Nat.ble (n * (cx.T e).size) 16777216 <;> rw [hb] at H <;> try exact False.elim H
  simp only at H
  have hle := Nat.le_of_ble_eq_true hb
  cases hf : fillL cx.T (arrPlace cx.T e n) vs (repl n (cx.T e).zero) <;> rw [hf] at H <;> try exact False.elim H
  rename_i c
  have he := tok.sli t e hk
  have hzl : (cx.T e).zero.length = (cx.T e).size := by obtain ⟨_, _, _, _, _, hz, _⟩ := tok.info e he; exact hz
  refine ek_v ?_
  unfold Instr.buildSlice
  refine wpH_b (wpH_under (tok.slice hk) ?_)
  dsimp only
  refine wpH_b (tok.size he ?_)
  rw [if_neg (by simpa using hle)]
  have fin : ∀ arr : Array Value, arr.toList = repl n (cx.T e).zero → wpH cx.P (do
      let some cells := Instr.fill (fun i => some (i * (cx.T e).size, (cx.T e).size)) arr (ps.map fun (i, x) => (i, ρ x)).toList
        | stuck "buildSlice: a part of the wrong size"
      pure (.slice (some (← newRow e cells)) n n)) K h := by
    intro arr ha
    have hpl : ∀ i off u, arrPlace cx.T e n i = some (off, u) → some (i * (cx.T e).size, (cx.T e).size) = some (off, (cx.T u).size) := by
      intro i off u hi
      unfold arrPlace at hi
      cases hb : Nat.blt i n <;> simp [hb] at hi
      obtain ⟨rfl, rfl⟩ := hi
      rfl
    obtain ⟨rs, hr, hrl⟩ := fill_ok (T := cx.T) (pl := fun i => some (i * (cx.T e).size, (cx.T e).size)) hpl vs _ c arr hf ha
    rw [hps]
    simp only [hr]
    refine wpH_b (new_row ?_ H)
    have : rs = c.toArray := by apply Array.ext'; simp [hrl]
    rw [this]
  by_cases hz : n * (cx.T e).size = 0
  · rw [if_pos hz]
    refine wpH_b (wpH_p ?_)
    refine fin _ ?_
    rw [hz]
    have e0 : repl n (cx.T e).zero = [] := List.eq_nil_of_length_eq_zero (by rw [repl_len, hzl]; exact hz)
    rw [e0]
    simp
  · rw [if_neg hz]
    refine wpH_b (tok.zero he ?_)
    refine wpH_b (wpH_p ?_)
    refine fin _ ?_
    have hzz : (mkV (cx.T e).kind.agg (cx.T e).zero).cells.toList = (cx.T e).zero := tok.zcells he
    have hs : (mkV (cx.T e).kind.agg (cx.T e).zero).cells.size = (cx.T e).size := by rw [← Array.length_toList, hzz, hzl]
    rw [← hs, range_repl, hzz]

theorem wpH_ask {P : Program} {n : Nat} {K2 : Unit → Hp → Prop} (H : K2 () h) : wpH P (askRoom n) K2 h := by
  unfold askRoom
  split <;> exact H

theorem e_makeSlice (tok : TOk cx.P cx.T) (hc : ∀ x, tmOk adr (opnd σ x) (ρ x)) {t : TypeId} {l c : Operand} (H : vcE cx ⟨dst, .makeSlice t l c, ty, pos, after, guard⟩ K σ h) :
    wpH cx.P (execOp ρ ⟨dst, .makeSlice t l c, ty, pos, after, guard⟩) (EK cx.P K) h := by
  simp only [vcE] at H
  split at H <;> try exact False.elim H
  rename_i _ l' _ c' e hl hcc hk
  obtain ⟨h0, h1, h2, h3, H⟩ := H
  have he := tok.sli t e hk
  obtain ⟨i, hi, hsz, hby, _, hzl, _⟩ := tok.info e he
  refine ek_v ?_
  unfold Instr.makeSlice
  rw [q_val hc hl, q_val hc hcc]
  refine wpH_b (wpH_under (tok.slice hk) ?_)
  dsimp only
  refine wpH_b (wpH_b (wpH_asIntOf (wpH_p ?_)))
  refine wpH_b (wpH_b (wpH_asIntOf (wpH_p ?_)))
  refine wpH_b (wpH_info hi ?_)
  dsimp only
  have hmax : c' ≤ 281474976710656 := by
    have : 1 ≤ ((cx.T e).bytes : Int) := by omega
    have := Int.mul_le_mul_of_nonneg_right this (show 0 ≤ c' by omega)
    omega
  have wl : IntKind.i64.wrap l' = l' := wrap_i64 ⟨by omega, by omega⟩
  have wc : IntKind.i64.wrap c' = c' := wrap_i64 ⟨by omega, by omega⟩
  rw [wl, wc, hby]
  have e248 : (2 : Int) ^ 48 = 281474976710656 := by decide
  rw [if_neg (by
    simp only [e248, Bool.or_eq_true, decide_eq_true_eq, not_or, Int.not_lt]
    refine ⟨⟨⟨by omega, by omega⟩, by omega⟩, by omega⟩)]
  refine wpH_b (wpH_ask ?_)
  refine wpH_b (tok.size he ?_)
  have hzz : (mkV (cx.T e).kind.agg (cx.T e).zero).cells.toList = (cx.T e).zero := tok.zcells he
  have hs : (mkV (cx.T e).kind.agg (cx.T e).zero).cells.size = (cx.T e).size := by rw [← Array.length_toList, hzz, hzl]
  by_cases hz : c'.toNat * (cx.T e).size = 0
  · rw [if_pos hz]
    refine wpH_b (wpH_p ?_)
    refine wpH_b (new_row ?_ H)
    have e0 : repl c'.toNat (cx.T e).zero = [] := List.eq_nil_of_length_eq_zero (by rw [repl_len, hzl]; exact hz)
    rw [e0, hz]
    simp
  · rw [if_neg hz]
    refine wpH_b (tok.zero he ?_)
    refine wpH_b (wpH_p ?_)
    refine wpH_b (new_row ?_ H)
    congr 1
    apply Array.ext'
    rw [← hs, range_repl, hzz]

theorem e_makeMap {t : TypeId} {r : Option Operand} (H : vcE cx ⟨dst, .makeMap t r, ty, pos, after, guard⟩ K σ h) : wpH cx.P (execOp ρ ⟨dst, .makeMap t r, ty, pos, after, guard⟩) (EK cx.P K) h := by
  simp only [vcE] at H
  cases r <;> try exact False.elim H
  refine ek_v ?_
  unfold Instr.makeMap
  refine wpH_b ?_
  exact fun b hb => H b hb

theorem e_range (tok : TOk cx.P cx.T) (hc : ∀ x, tmOk adr (opnd σ x) (ρ x)) {t : TypeId} {x : Operand} (H : vcE cx ⟨dst, .range t x, ty, pos, after, guard⟩ K σ h) : wpH cx.P (execOp ρ ⟨dst, .range t x, ty, pos, after, guard⟩) (EK cx.P K) h := by
  simp only [vcE] at H
  split at H <;> try exact False.elim H
  rename_i s hk hx
  refine ek_v ?_
  rw [q_val hc hx]
  unfold Instr.range
  refine wpH_b (wpH_under (tok.str hk) ?_)
  dsimp only
  refine wpH_b (wpH_p ?_)
  refine wpH_b ?_
  exact fun b hb => H b hb

theorem e_next (hc : ∀ x, tmOk adr (opnd σ x) (ρ x)) {it : Operand} {b : Bool} (H : vcE cx ⟨dst, .next it b, ty, pos, after, guard⟩ K σ h) : wpH cx.P (execOp ρ ⟨dst, .next it b, ty, pos, after, guard⟩) (EK cx.P K) h := by
  simp only [vcE] at H
  split at H <;> try exact False.elim H
  rename_i r _ hx
  obtain ⟨s, p, hb, H1, H2⟩ := H
  refine ek_v ?_
  rw [q_val hc hx]
  unfold Instr.next
  refine wpH_b ⟨_, hb, trivial, ?_⟩
  refine wpH_p ?_
  dsimp only
  by_cases hp : p < s.size
  · rw [if_pos hp]
    refine wpH_b ⟨_, hb, trivial, ?_⟩
    exact H1 hp
  · rw [if_neg hp]
    exact H2 hp

theorem e_convert (tok : TOk cx.P cx.T) (hc : ∀ x, tmOk adr (opnd σ x) (ρ x)) {s d : TypeId} {x : Operand} (H : vcE cx ⟨dst, .convert s d x, ty, pos, after, guard⟩ K σ h) : wpH cx.P (execOp ρ ⟨dst, .convert s d x, ty, pos, after, guard⟩) (EK cx.P K) h := by
  simp only [vcE] at H
  cases hx : opnd σ x <;> rw [hx] at H <;> try exact False.elim H
  rename_i v
  cases v <;> try exact False.elim H
  case string u =>
    simp only at H
    split at H <;> try exact False.elim H
    rename_i e hs hd
    cases he : (cx.T e).kind <;> rw [he] at H <;> try exact False.elim H
    rename_i k
    cases k <;> try exact False.elim H
    simp only at H
    refine ek_v ?_
    rw [q_val hc hx]
    unfold convert
    refine wpH_b (wpH_under (tok.str hs) (wpH_b (wpH_under (tok.slice hd) ?_)))
    refine wpH_b (wpH_under (tok.int he) ?_)
    unfold Conv.stringToBytes
    refine wpH_b ?_
    refine ⟨fun hf => by simp [Question.forced] at hf, fun _ t => ?_⟩
    refine wpH_p ?_
    have hge : u.size ≤ Question.cut (.appendCap u.size 0 e) t := by simp [Question.cut]
    generalize Question.cut (.appendCap u.size 0 e) t = cap at hge
    have H := H cap hge
    refine wpH_b ?_
    unfold newRow
    refine wpH_b ?_
    intro b hb
    refine wpH_p (wpH_p ?_)
    refine wpH_b ?_
    unfold markStringish
    have hc1 : (u.data.map (fun b => Value.int .u8 b.toNat) ++ Array.replicate (cap - u.size) (Value.int .u8 0)) = ((u.data.toList.map fun b => Value.int .u8 b.toNat) ++ List.replicate (cap - u.size) (Value.int .u8 0)).toArray := by
      apply Array.ext'; simp
    have hsz : (u.data.map (fun b => Value.int .u8 b.toNat) ++ Array.replicate (cap - u.size) (Value.int .u8 0)).size = cap := by
      simp only [Array.size_append, Array.size_map, Array.size_replicate]
      have : u.data.size = u.size := rfl
      omega
    refine wpH_b ⟨_, Hp.set_same _ _ _, ?_⟩
    refine wpH_p ?_
    dsimp only [rowOf]
    refine ⟨_, _, _, _, Hp.set_same _ _ _, by simp, ?_⟩
    refine wpH_p (wpH_p ?_)
    have := H b hb
    rw [set_set, hsz]
    simpa [hc1] using this
  case slice a l c =>
    simp only at H
    split at H <;> try exact False.elim H
    rename_i e hsd hd
    cases he : (cx.T e).kind <;> rw [he] at H <;> try exact False.elim H
    rename_i k
    cases k <;> try exact False.elim H
    simp only at H
    have hsd := Nat.eq_of_beq_eq_true hsd
    subst hsd
    obtain ⟨b, cs, ce, lo, hi, rfl, hb, H⟩ := H
    refine ek_v ?_
    rw [q_val hc hx]
    unfold convert
    refine wpH_b (wpH_under (tok.slice hd) (wpH_b (wpH_under (tok.slice hd) ?_)))
    dsimp only
    refine wpH_b (wpH_under (tok.int he) ?_)
    simp only [beq_self_eq_true]
    refine wpH_b ?_
    unfold markStringish
    refine wpH_b ⟨_, hb, ?_⟩
    refine wpH_p ?_
    dsimp only [rowOf]
    refine ⟨_, _, _, _, hb, by simp, ?_⟩
    exact H

theorem e_builtin (hc : ∀ x, tmOk adr (opnd σ x) (ρ x)) {b : Builtin} {args : Array Operand} {ats : Array TypeId} {vs : List Value} (hv : vals σ args.toList = some vs) {K' : Next → Hp → Prop}
    (H : ∀ consts, wpH cx.P (builtin b ats ty consts vs.toArray) K' h) : wpH cx.P (execOp ρ ⟨dst, .call ⟨.builtin b, args, ats⟩, ty, pos, after, guard⟩) K' h := wpH_builtin hc hv H

theorem wpH_first {P : Program} {size n : Nat} {x : Value} {new : List Value} (hs : SrcIs h size x n new) {K2 : Array Value → Hp → Prop} (H : K2 new.toArray h) : wpH P (Builtin.firstCells size n x) K2 h := by
  cases x <;> try exact False.elim hs
  case string s =>
    obtain ⟨h1, h2, h3⟩ := hs
    unfold Builtin.firstCells
    refine wpH_p ?_
    have : (s.extract 0 n).data.map (fun b => Value.int .u8 b.toNat) = new.toArray := by
      apply Array.ext'
      rw [h3, ← h1]
      rw [Array.toList_map, Lib.extract_data, List.drop_zero, Nat.sub_zero, List.take_of_length_le (by rw [Array.length_toList]; exact Nat.le_refl _)]
    rw [this]; exact H
  case slice a l c =>
    obtain ⟨_, h2, h3⟩ := hs
    unfold Builtin.firstCells
    cases a with
    | none =>
      have : new = [] := List.eq_nil_of_length_eq_zero (by rw [h2]; exact h3)
      subst this
      exact H
    | some a =>
      unfold loadCells
      rcases h3 with h3 | h3
      · have : new = [] := List.eq_nil_of_length_eq_zero (by rw [h2]; exact h3)
        subst this
        simp only [h3]
        exact H
      · exact wpH_loadCells h3 _ 0 #[] (by omega) (by simpa using H)

theorem wpH_lenOf {P : Program} {size n : Nat} {x : Value} {new : List Value} (hs : SrcIs h size x n new) {K2 : Nat → Hp → Prop} (H : K2 n h) : wpH P (Builtin.lenOf x) K2 h := by
  cases x <;> try exact False.elim hs
  case string s => obtain ⟨rfl, _⟩ := hs; exact H
  case slice a l c => obtain ⟨rfl, _⟩ := hs; exact H

theorem zeroCells_repl (z : Array Value) (n : Nat) : (Builtin.zeroCells z n).toList = repl n z.toList := by
  unfold Builtin.zeroCells
  exact range_repl

theorem e_append (tok : TOk cx.P cx.T) (hc : ∀ x, tmOk adr (opnd σ x) (ρ x)) {args : Array Operand} {ats : Array TypeId} (H : vcE cx ⟨dst, .call ⟨.builtin .append, args, ats⟩, ty, pos, after, guard⟩ K σ h) :
    wpH cx.P (execOp ρ ⟨dst, .call ⟨.builtin .append, args, ats⟩, ty, pos, after, guard⟩) (EK cx.P K) h := by
  simp only [vcE] at H
  split at H <;> try exact False.elim H
  rename_i a l k x hv
  split at H <;> try exact False.elim H
  rename_i t u hats
  obtain ⟨e, d, hk, hd, hdd, H⟩ : ∃ e d, (cx.T t).kind = .slice e ∧ cx.P.underlying u = some d ∧ (d = .string ∨ ∃ e', d = .slice e') ∧ HApp (cx.T e) e h a l k x fun a l k h' => K (.slice a l k) h' := by
    split at H <;> try exact False.elim H
    · rename_i e hk hu
      exact ⟨e, _, hk, tok.str hu, .inl rfl, H⟩
    · rename_i e e' hk hu
      exact ⟨e, _, hk, tok.slice hu, .inr ⟨e', rfl⟩, H⟩
  obtain ⟨n, new, old, hnew, hleaf, hold, hb0, Hin, Hout⟩ := H
  have he := tok.sli t e hk
  obtain ⟨i, hi, hsz, hby, hz, hzl, _⟩ := tok.info e he
  have t0 : ats[0]? = some t := by
    have : ats[0]? = ats.toList[0]? := by simp
    rw [this, hats]; rfl
  have t1 : ats[1]? = some u := by
    have : ats[1]? = ats.toList[1]? := by simp
    rw [this, hats]; rfl
  refine e_builtin hc hv fun consts => ek_v ?_
  unfold Builtin.append_
  simp only [t0, t1, List.getElem?_toArray, List.getElem?_cons_zero, List.getElem?_cons_succ]
  refine wpH_b (wpH_under (tok.slice hk) ?_)
  dsimp only
  refine wpH_b (tok.size he ?_)
  refine wpH_b (wpH_under hd ?_)
  rcases hdd with rfl | ⟨e', rfl⟩
  all_goals
    refine wpH_b (wpH_p ?_)
    simp only [Bool.false_eq_true, if_false, Bool.not_false, if_true]
    refine wpH_b (wpH_lenOf hnew ?_)
    by_cases hle : l + n ≤ k
    · rw [if_pos hle]
      refine wpH_b (wpH_first hnew ?_)
      have Hin2 := Hin hle
      clear Hin
      obtain ⟨_, hlen⟩ : True ∧ new.length = n * (cx.T e).size := by
        refine ⟨trivial, ?_⟩
        cases x <;> try exact False.elim hnew
        · obtain ⟨h1, h2, h3⟩ := hnew
          rw [h3, List.length_map, Array.length_toList, h2, Nat.mul_one]
          exact h1
        · exact hnew.2.1
      cases a with
      | none => exact Hin2.2
      | some a =>
        dsimp only at Hin2 ⊢
        by_cases hz0 : n * (cx.T e).size = 0
        · rw [if_pos hz0] at Hin2
          have : new = [] := List.eq_nil_of_length_eq_zero (by rw [hlen]; exact hz0)
          subst this
          refine wpH_b ?_
          unfold storeCells
          exact Hin2
        · rw [if_neg hz0] at Hin2
          exact wpH_b (wpH_HSt hleaf Hin2 fun h' hk => hk)
    · rw [if_neg hle]
      refine wpH_b (wpH_info hi ?_)
      rw [if_neg (by rw [hby]; simp [hb0])]
      refine wpH_b (wpH_info hi ?_)
      rw [if_neg (by have := (Hout hle).1; rw [hby]; omega)]
      refine wpH_b ?_
      refine ⟨fun hf => by simp [Question.forced] at hf, fun _ tt => ?_⟩
      refine wpH_p ?_
      have hge : l + n ≤ Question.cut (.appendCap (l + n) k e) tt := by simp [Question.cut]
      generalize Question.cut (.appendCap (l + n) k e) tt = cap at hge
      refine wpH_b (wpH_info hi ?_)
      refine wpH_b (wpH_ask ?_)
      refine wpH_b (wpH_first hold ?_)
      refine wpH_b (wpH_first hnew ?_)
      refine wpH_b (tok.zero he ?_)
      refine wpH_b (new_row ?_ ((Hout hle).2 cap hge))
      congr 1
      apply Array.ext'
      simp only [Array.toList_append, zeroCells_repl, tok.zcells he]

theorem e_copy (tok : TOk cx.P cx.T) (hc : ∀ x, tmOk adr (opnd σ x) (ρ x)) {args : Array Operand} {ats : Array TypeId} (H : vcE cx ⟨dst, .call ⟨.builtin .copy, args, ats⟩, ty, pos, after, guard⟩ K σ h) :
    wpH cx.P (execOp ρ ⟨dst, .call ⟨.builtin .copy, args, ats⟩, ty, pos, after, guard⟩) (EK cx.P K) h := by
  simp only [vcE] at H
  split at H <;> try exact False.elim H
  rename_i a l k x hv
  split at H <;> try exact False.elim H
  rename_i t r hats
  split at H <;> try exact False.elim H
  rename_i e hk
  obtain ⟨n, new, hs, hleaf, H⟩ := H
  have he := tok.sli t e hk
  have t0 : ats[0]? = some t := by
    have : ats[0]? = ats.toList[0]? := by simp
    rw [this, hats]; rfl
  refine e_builtin hc hv fun consts => ek_v ?_
  unfold Builtin.copy_
  simp only [t0, List.getElem?_toArray, List.getElem?_cons_zero, List.getElem?_cons_succ]
  refine wpH_b (wpH_under (tok.slice hk) ?_)
  dsimp only
  have fin : new.length = n * (cx.T e).size → wpH cx.P (do
      if let some a := a then storeCells a new.toArray.toList
      pure (goInt (n : Int))) K h := by
    intro hlen
    cases a with
    | none => exact H
    | some a =>
      dsimp only at H ⊢
      by_cases hz0 : n * (cx.T e).size = 0
      · rw [if_pos hz0] at H
        have : new = [] := List.eq_nil_of_length_eq_zero (by rw [hlen]; exact hz0)
        subst this
        refine wpH_b ?_
        unfold storeCells
        exact H
      · rw [if_neg hz0] at H
        exact wpH_b (wpH_HSt hleaf H fun h' hk => hk)
  cases x <;> try exact False.elim hs
  case slice b m c =>
    obtain ⟨rfl, hs⟩ := hs
    refine wpH_b (wpH_p ?_)
    refine wpH_b (tok.size he ?_)
    have hs2 : wpH cx.P (Builtin.firstCells (cx.T e).size (Nat.min m l) (.slice b m c)) (fun cells h' => cells = new.toArray ∧ h' = h) h := by
      have := wpH_first (P := cx.P) hs (K2 := fun cells h' => cells = new.toArray ∧ h' = h) ⟨rfl, rfl⟩
      cases b <;> exact this
    refine wpH_b (wpH_mono _ ?_ hs2)
    rintro cells h' ⟨rfl, rfl⟩
    exact fin hs.2.1
  case string u =>
    obtain ⟨rfl, hs⟩ := hs
    refine wpH_b (wpH_p ?_)
    refine wpH_b (tok.size he ?_)
    have hs2 : wpH cx.P (Builtin.firstCells (cx.T e).size (Nat.min u.size l) (.string u)) (fun cells h' => cells = new.toArray ∧ h' = h) h := by
      obtain ⟨h1, h2, h3⟩ := hs
      unfold Builtin.firstCells
      refine wpH_p ⟨?_, rfl⟩
      apply Array.ext'
      rw [h3]
      simp
    refine wpH_b (wpH_mono _ ?_ hs2)
    rintro cells h' ⟨rfl, rfl⟩
    refine fin ?_
    obtain ⟨h1, h2, h3⟩ := hs
    rw [h3, List.length_map, Array.length_toList, h2, Nat.mul_one]
    exact h1

theorem e_clear (tok : TOk cx.P cx.T) (hc : ∀ x, tmOk adr (opnd σ x) (ρ x)) {args : Array Operand} {ats : Array TypeId} (H : vcE cx ⟨dst, .call ⟨.builtin .clear, args, ats⟩, ty, pos, after, guard⟩ K σ h) :
    wpH cx.P (execOp ρ ⟨dst, .call ⟨.builtin .clear, args, ats⟩, ty, pos, after, guard⟩) (EK cx.P K) h := by
  simp only [vcE] at H
  split at H <;> try exact False.elim H
  rename_i a l k hv
  split at H <;> try exact False.elim H
  rename_i t r hats
  split at H <;> try exact False.elim H
  rename_i e hk
  have he := tok.sli t e hk
  obtain ⟨_, _, _, _, _, hzl, _, hzf⟩ := tok.info e he
  have t0 : ats[0]? = some t := by
    have : ats[0]? = ats.toList[0]? := by simp
    rw [this, hats]; rfl
  refine e_builtin hc hv fun consts => ek_v ?_
  unfold Builtin.clear_
  simp only [t0, List.getElem?_toArray, List.getElem?_cons_zero]
  refine wpH_b (wpH_under (tok.slice hk) ?_)
  unfold HClear at H
  cases a with
  | none => exact H
  | some a =>
    dsimp only at H
    cases l with
    | zero => rw [if_pos rfl] at H; exact H
    | succ l =>
      rw [if_neg (by omega)] at H
      refine wpH_b (tok.zero he ?_)
      refine wpH_b ?_
      rw [zeroCells_repl, tok.zcells he]
      refine wpH_HSt ?_ H fun h' hk => hk
      clear H
      have : ∀ n, (repl n (cx.T e).zero).all leafB = true := by
        intro n
        induction n with
        | zero => rfl
        | succ n ih => unfold repl; rw [List.all_append, hzf, ih]; rfl
      exact this _

theorem mset_modify (key v : Value) : ∀ (es : List MapEntry) (i : Nat) (u : Value) (j : Nat), midx key es j = some (i, u) → j ≤ i ∧ es.modify (i - j) (fun e => { e with key := key, val := v }) = mset key v es ∧ ∃ e, es[i - j]? = some e ∧ keyEq key e.key = true
  | [], _, _, _, h => by cases h
  | e :: r, i, u, j, h => by
    unfold midx at h
    unfold mset
    cases hk : keyEq key e.key with
    | true =>
      rw [hk] at h
      cases h
      refine ⟨Nat.le_refl _, ?_, e, by simp, hk⟩
      simp
    | false =>
      rw [hk] at h
      obtain ⟨h1, h2, e', h3, h4⟩ := mset_modify key v r i u (j + 1) h
      have e1 : i - j = (i - (j + 1)) + 1 := by omega
      refine ⟨by omega, ?_, e', ?_, h4⟩
      · rw [e1]
        simp only [List.modify_succ_cons, cond_false]
        rw [h2]
      · rw [e1]; simpa using h3

theorem e_mapUpdate (tok : TOk cx.P cx.T) (hc : ∀ x, tmOk adr (opnd σ x) (ρ x)) {t : TypeId} {m k v : Operand} (H : vcE cx ⟨dst, .mapUpdate t m k v, ty, pos, after, guard⟩ K σ h) :
    wpH cx.P (execOp ρ ⟨dst, .mapUpdate t m k v, ty, pos, after, guard⟩) (EK cx.P K) h := by
  simp only [vcE] at H
  split at H <;> try exact False.elim H
  rename_i kt e r key u hk hm hkk hv
  cases hok : keyOk (cx.T kt).kind key <;> rw [hok] at H <;> try exact False.elim H
  obtain ⟨b, es, clk, rfl, hb, hkeys, H1, H2⟩ := H
  obtain ⟨d, hd, hu⟩ := keyDesc_ok tok hok
  simp only [execOp]
  rw [q_val hc hm, q_val hc hkk, q_val hc hv]
  refine wpH_b ?_
  unfold Instr.mapUpdate
  refine wpH_b (wpH_under (tok.map hk) ?_)
  dsimp only
  refine wpH_b ⟨_, hb, trivial, ?_⟩
  refine wpH_p ?_
  dsimp only
  refine wpH_b (wpH_checkKey hd hu hok ?_)
  refine wpH_b (wpH_findKey hd hu hok hkeys ?_)
  have hmf := midx_find key es 0
  cases hi : midx key es 0 with
  | none =>
    rw [hi] at hmf
    dsimp only
    refine ⟨_, hb, trivial, ?_⟩
    have := H2 (by rw [← hmf]; rfl)
    have ea : es.toArray.push ⟨key, u, clk⟩ = (es ++ [MapEntry.mk key u clk]).toArray := by apply Array.ext'; simp
    rw [ea]
    exact this
  | some p =>
    obtain ⟨i, w⟩ := p
    rw [hi] at hmf
    dsimp only
    obtain ⟨_, h2, e', h3, h4⟩ := mset_modify key u es i w 0 hi
    have hks : wpH cx.P (Instr.keyThatStays (((es.toArray[i]?).map (·.key)).getD key) key) (fun q h' => q = key ∧ h' = h) h := by
      unfold Instr.keyThatStays
      have h3' : es.toArray[i]? = some e' := by simpa using h3
      rw [h3']
      have hsb : Instr.sameBits 10000 e'.key key = true := by
        have hmem : e' ∈ es := List.mem_of_getElem? h3
        cases hkd : (cx.T kt).kind <;> rw [hkd] at hkeys hok <;> simp only [keysOf] at hkeys
        · obtain ⟨n, hn⟩ := hkeys e' hmem
          rw [hn] at h4 ⊢
          cases key <;> simp [keyEq] at h4
          simp [keyOk] at hok
          obtain rfl := hok
          obtain rfl := h4
          simp [Instr.sameBits]
        · obtain ⟨n, hn⟩ := hkeys e' hmem
          rw [hn] at h4 ⊢
          cases key <;> simp [keyEq] at h4
          obtain rfl := h4
          simp [Instr.sameBits, beqBytes]
      simp only [Option.map_some, Option.getD_some, hsb, if_true]
      exact ⟨rfl, rfl⟩
    refine wpH_b (wpH_mono _ ?_ hks)
    rintro q h' ⟨rfl, rfl⟩
    refine ⟨_, hb, trivial, ?_⟩
    have := H1 (by rw [← hmf]; rfl)
    have ea : es.toArray.modify i (fun e => { e with key := q, val := u }) = (mset q u es).toArray := by
      apply Array.ext'
      rw [← h2]
      simp
    rw [ea]
    exact this
end

end Go.Proofs.YtkhfofnglkekoaaDoor
