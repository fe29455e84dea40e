/- Own verification-condition framework, part D: each quiet operation does what its formula says. Conditions: none. -/
import Derived.Test.YtkhfofnglkekoaaDoorVcC
import Derived.Lib.Strings
import Derived.Laws.Sem
namespace Go.Proofs.YtkhfofnglkekoaaDoor

/-- The temporary's value is as the symbolic state says. -/
def tmOk (adr : Nat → Nat) (x : SV) (v : Value) : Prop :=
  match x with
  | .val u => v = u
  | .loc k o => v = .pointer (some ⟨adr k, o, none⟩)
  | .any => True

theorem wpH_v {P : Program} {s : Sem Value} {K : Next → Hp → Prop} {h : Hp} (H : wpH P s (fun v h' => K (.value v) h') h) : wpH P (do pure (Next.value (← s))) K h := wpH_b H

theorem vals_ok {σ : Env} {adr : Nat → Nat} {ρ : Operand → Value} (hc : ∀ x, tmOk adr (opnd σ x) (ρ x)) : ∀ (l : List Operand) (vs : List Value), vals σ l = some vs → l.map ρ = vs
  | [], vs, h => by simp [vals] at h; simp [h]
  | x :: r, vs, h => by
    unfold vals at h
    have hx := hc x
    cases ho : opnd σ x with
    | val v =>
      rw [ho] at h hx
      cases hr : vals σ r with
      | none => simp [hr] at h
      | some us =>
        simp [hr] at h
        subst h
        simp only [tmOk] at hx
        simp [hx, vals_ok hc r us hr]
    | loc k o => rw [ho] at h; simp at h
    | any => rw [ho] at h; simp at h

theorem parts_ok {σ : Env} {adr : Nat → Nat} {ρ : Operand → Value} (hc : ∀ x, tmOk adr (opnd σ x) (ρ x)) : ∀ (l : List (Nat × Operand)) (vs : List (Nat × Value)), parts σ l = some vs → (l.map fun (i, x) => (i, ρ x)) = vs
  | [], vs, h => by simp [parts] at h; simp [h]
  | (i, x) :: r, vs, h => by
    unfold parts at h
    have hx := hc x
    cases ho : opnd σ x with
    | val v =>
      rw [ho] at h hx
      cases hr : parts σ r with
      | none => simp [hr] at h
      | some us =>
        simp [hr] at h
        subst h
        simp only [tmOk] at hx
        simp [hx, ← parts_ok hc r us hr]
    | loc k o => rw [ho] at h; simp at h
    | any => rw [ho] at h; simp at h

theorem cellsO_ok {g : Bool} {v : Value} {cs : List Value} (h : cellsO g v = some cs) : v.cells.toList = cs := by
  unfold cellsO at h
  cases g with
  | true => cases v <;> simp at h; rename_i l; simp [Value.cells, h]
  | false => cases v <;> simp [leafB] at h <;> simp [Value.cells, ← h]

theorem exs_some {l : List Sh} : ∀ {K : List Value → Prop}, exs l K → ∃ vs, vs.length = l.length ∧ K vs := by
  induction l with
  | nil => intro K h; exact ⟨[], rfl, h⟩
  | cons s r ih =>
    intro K h
    have step : ∀ {v : Value}, exs r (fun vs => K (v :: vs)) → ∃ vs, vs.length = (s :: r).length ∧ K vs := by
      intro v hv
      obtain ⟨vs, hl, hk⟩ := ih hv
      exact ⟨v :: vs, by simp [hl], hk⟩
    unfold exs at h
    cases s <;> simp only [Sh.ex] at h
    case int k => obtain ⟨n, h⟩ := h; exact step h
    case bool => obtain ⟨n, h⟩ := h; exact step h
    case str => obtain ⟨n, h⟩ := h; exact step h
    case ptr => obtain ⟨n, h⟩ := h; exact step h
    case slice => obtain ⟨a, b, c, h⟩ := h; exact step h
    case map => obtain ⟨n, h⟩ := h; exact step h
    case fn => obtain ⟨a, b, c, h⟩ := h; exact step h

theorem mem_splice {c vs : List Value} {o : Nat} : (splice c o vs).length = min o c.length + vs.length + (c.length - (o + vs.length)) := by
  simp [splice]; omega

theorem fold_splice : ∀ (vs : List Value) (j off : Nat) (cs : Array Value), off + j + vs.length ≤ cs.size →
    ((vs.zipIdx j).foldl (fun cs (p : Value × Nat) => cs.setIfInBounds (off + p.2) p.1) cs).toList = splice cs.toList (off + j) vs
  | [], j, off, cs, _ => by simp [splice_nil]
  | v :: vs, j, off, cs, h => by
    simp only [List.zipIdx_cons, List.foldl_cons]
    simp only [List.length_cons] at h
    rw [fold_splice vs (j + 1) off _ (by simp; omega), splice_cons _ _ _ _ (by simpa using h)]
    simp [Nat.add_assoc]

theorem fill_ok {T : Nat → TI} {place : Nat → Option (Nat × TypeId)} {pl : Nat → Option (Nat × Nat)} (hp : ∀ i off t, place i = some (off, t) → pl i = some (off, (T t).size)) :
    ∀ (l : List (Nat × Value)) (c r : List Value) (cs : Array Value), fillL T place l c = some r → cs.toList = c → ∃ rs, Instr.fill pl cs l = some rs ∧ rs.toList = r
  | [], c, r, cs, h, hc => by simp [fillL] at h; exact ⟨cs, rfl, by rw [hc, h]⟩
  | (i, v) :: l, c, r, cs, h, hc => by
    unfold fillL at h
    cases hi : place i with
    | none => simp [hi] at h
    | some p =>
      obtain ⟨off, t⟩ := p
      simp only [hi] at h
      cases hv : cellsO (T t).kind.agg v with
      | none => simp [hv] at h
      | some us =>
        simp only [hv] at h
        cases hb : Nat.beq us.length (T t).size && Nat.ble (off + (T t).size) c.length with
        | false => simp [hb] at h
        | true =>
          simp only [hb] at h
          rw [Bool.and_eq_true] at hb
          have h1 : us.length = (T t).size := Nat.eq_of_beq_eq_true hb.1
          have h2 : off + (T t).size ≤ c.length := Nat.le_of_ble_eq_true hb.2
          have hcells := cellsO_ok hv
          have hsz : v.cells.size = us.length := by rw [← hcells]; simp
          have hcs : cs.size = c.length := by rw [← hc]; simp
          unfold Instr.fill
          rw [hp i off t hi]
          simp only []
          rw [if_neg (by
            simp only [Bool.or_eq_true, decide_eq_true_eq, not_or, ne_eq, Decidable.not_not]
            exact ⟨by omega, by omega⟩)]
          have hz : (v.cells.zipIdx.foldl (fun cs (p : Value × Nat) => cs.setIfInBounds (off + p.2) p.1) cs).toList = splice c off us := by
            rw [← Array.foldl_toList, Array.toList_zipIdx, hcells, fold_splice us 0 off cs (by omega), hc]
            simp
          exact fill_ok hp l _ r _ h hz

/-! ### One operation after the other -/

/-- What a quiet operation that touches no local's cells gives, in the model. -/
def QRun (P : Program) (adr : Nat → Nat) (ρ : Operand → Value) (o : Oper) (h : Hp) (K : SV → Loc → Prop) (loc : Loc) : Prop :=
  ∃ sv v, K sv loc ∧ tmOk adr sv v ∧ wpH P (execOp ρ o) (fun n h' => n = .value v ∧ h' = h) h

section
variable {P : Program} {adr : Nat → Nat} {ρ : Operand → Value} {o : Oper} {h : Hp} {K : SV → Loc → Prop} {loc : Loc}

theorem QRun.mk' {v : Value} (hk : K (.val v) loc) (H : wpH P (execOp ρ o) (fun n h' => n = .value v ∧ h' = h) h) : QRun P adr ρ o h K loc := ⟨.val v, v, hk, rfl, H⟩

theorem wrap_i64 {n : Int} (h : I64 n) : IntKind.i64.wrap n = n := by
  unfold I64 at h
  have e1 : (2 : Int) ^ 64 = 18446744073709551616 := by decide
  have e2 : (2 : Int) ^ (64 - 1) = 9223372036854775808 := by decide
  simp only [IntKind.wrap, IntKind.bits, IntKind.signed, Bool.true_and, e1, e2, decide_eq_true_eq]
  split <;> omega

theorem arithK_ok {k : IntKind} {n : Int} {K' : Value → Prop} (H : arithK k n K') : K' (.int k (k.wrap n)) := by
  unfold arithK at H
  cases k <;> simp only at H <;> first | exact H | (rw [wrap_i64 H.1]; exact H.2)

theorem intBin_ok {op : BinOp} {k : IntKind} {m n : Int} {K' : Value → Prop} (H : intBin op k m n K') : ∃ v, K' v ∧ wpH P (
    match op with
    | .add | .sub | .mul => Op.intArith op k m n
    | .quo | .rem => Op.intDiv op k m n
    | .and | .or | .xor | .andNot => Op.intBits op k m n
    | _ => Op.intCmp op m n) (fun u h' => u = v ∧ h' = h) h := by
  cases op <;> simp only [intBin] at H
  case add => exact ⟨_, arithK_ok H, rfl, rfl⟩
  case sub => exact ⟨_, arithK_ok H, rfl, rfl⟩
  case mul => exact ⟨_, arithK_ok H, rfl, rfl⟩
  case quo => exact ⟨_, arithK_ok H.2, by simp only [Op.intDiv]; rw [if_neg H.1]; exact ⟨rfl, rfl⟩⟩
  case rem => exact ⟨_, H.2, by simp only [Op.intDiv]; rw [if_neg H.1]; exact ⟨rfl, rfl⟩⟩
  case and => exact ⟨_, H, rfl, rfl⟩
  case or => exact ⟨_, H, rfl, rfl⟩
  case xor => exact ⟨_, H, rfl, rfl⟩
  case andNot => exact ⟨_, H, rfl, rfl⟩
  case eql => exact ⟨_, H, rfl, rfl⟩
  case neq => exact ⟨_, H, rfl, rfl⟩
  case lss => exact ⟨_, H, rfl, rfl⟩
  case leq => exact ⟨_, H, rfl, rfl⟩
  case gtr => exact ⟨_, H, rfl, rfl⟩
  case geq => exact ⟨_, H, rfl, rfl⟩

theorem shV_ok {op : BinOp} (hop : op = .shl ∨ op = .shr) {k k' : IntKind} {m n : Int} {K' : Value → Prop} (H : shV op k m n K') : ∃ v, K' v ∧ wpH P (Op.shift op k m k' n) (fun u h' => u = v ∧ h' = h) h := by
  rcases hop with rfl | rfl <;> simp only [shV] at H <;> refine ⟨_, H.2, ?_⟩ <;> unfold Op.shift <;> rw [if_neg (by omega)] <;> exact ⟨rfl, rfl⟩

theorem eqList {a b : ByteArray} : (a.toList == b.toList) = decide (a = b) := by
  by_cases e : a = b
  · subst e; simp
  · have : ¬ a.toList = b.toList := by
      intro hl
      apply e
      rw [ByteArray.toList_eq, ByteArray.toList_eq] at hl
      cases a; cases b
      exact congrArg ByteArray.mk (Array.toList_inj.1 hl)
    simp [e, this]

theorem strBin_ok {op : BinOp} {a b : ByteArray} {K' : Value → Prop} (H : strBin op a b K') : ∃ v, K' v ∧ wpH P (Op.stringOp op a b) (fun u h' => u = v ∧ h' = h) h := by
  cases op <;> simp only [strBin] at H
  case add =>
    refine ⟨_, H.2, ?_⟩
    unfold Op.stringOp
    simp only []
    have hm : ¬ ((a.size + b.size : Nat) : Int) > IntKind.i64.max := by
      have : IntKind.i64.max = 9223372036854775807 := by decide
      rw [this]; omega
    rw [if_neg hm]
    exact ⟨rfl, rfl⟩
  all_goals refine ⟨_, H, ?_⟩; unfold Op.stringOp; simp only [eqList, strLt]; exact ⟨rfl, rfl⟩
end

def extF (e : Nat) : Array Value → Sem Value :=
  match e with
  | 1 => Extern.BytealgCount.count
  | 2 => Extern.BytealgIndexByte.indexByte
  | _ => Extern.BytealgCompare.compare

/-- What is asked of the program's side. -/
structure CxOk (cx : Cx) : Prop where
  tok : TOk cx.P cx.T
  mixed : cx.P.follows .mixedOrders = true
  fns : ∀ f, cx.fns f = true → ∃ fn, cx.P.funcs[f]? = some fn ∧ fn.body.isNone = false ∧ (fn.name == "runtime.NumGoroutine") = false
  ext : ∀ f, cx.ext f ≠ 0 → ∃ fn, cx.P.funcs[f]? = some fn ∧ fn.body.isNone = true ∧ (fn.name == "runtime.NumGoroutine") = false ∧ Extern.findNext fn = none ∧ Extern.find fn = some (extF (cx.ext f))
  eqt : ∀ t, cx.eqt t = true → ∀ xs ys h, hasShs (cx.T t).sh xs.toList = true → hasShs (cx.T t).sh ys.toList = true → ∀ a b,
    wpH cx.P (do eqGuard .eql t a b (.agg xs) (.agg ys); binOp .eql t (.agg xs) (.agg ys)) (fun v h' => v = .bool (aggEq xs.toList ys.toList) ∧ h' = h) h ∧
    wpH cx.P (do eqGuard .neq t a b (.agg xs) (.agg ys); binOp .neq t (.agg xs) (.agg ys)) (fun v h' => v = .bool (!aggEq xs.toList ys.toList) ∧ h' = h) h

theorem foldM_int {P : Program} {h : Hp} {g : Value → Value → Sem Value} {f : Int → Int → Int} {k : IntKind} (hg : ∀ x y k', g (.int k x) (.int k' y) = pure (.int k (f x y))) :
    ∀ (l : List Value) (x z : Int), foldInt f k x l = some z → wpH P (l.foldlM g (.int k x)) (fun v h' => v = .int k z ∧ h' = h) h
  | [], x, z, H => by simp [foldInt] at H; subst H; exact ⟨rfl, rfl⟩
  | v :: l, x, z, H => by
    unfold foldInt at H
    cases v <;> simp only [reduceCtorEq] at H
    rename_i k' y
    by_cases hk : k = k'
    · subst hk
      simp only [decide_true] at H
      simp only [List.foldlM_cons]
      rw [hg]
      exact wpH_b (foldM_int hg l _ _ H)
    · simp [hk] at H

theorem wpH_mapM {P : Program} {α β : Type} {g : α → Sem β} {f : α → β} : ∀ (l : List α) {K : List β → Hp → Prop} {h : Hp}, (∀ x ∈ l, ∀ (K : β → Hp → Prop) h, K (f x) h → wpH P (g x) K h) → K (l.map f) h → wpH P (l.mapM g) K h
  | [], K, h, _, H => by simp only [List.mapM_nil]; exact H
  | x :: l, K, h, hg, H => by
    simp only [List.mapM_cons]
    exact wpH_b (hg x (by simp) _ _ (wpH_b (wpH_mapM l (fun y hy => hg y (by simp [hy])) H)))

def locOp (σ : Env) (o : Oper) : Bool :=
  match o.op with
  | .alloc _ => true
  | .box _ _ => true
  | .store _ _ _ => true
  | .load _ x => (match opnd σ x with | .loc _ _ => true | _ => false)
  | _ => false

section
variable {cx : Cx} {adr : Nat → Nat} {ρ : Operand → Value} {σ : Env} {h : Hp} {K : SV → Loc → Prop} {loc : Loc} {rd : (Hp → Prop) → Prop}
  {dst : Option Tmp} {ty : TypeId} {pos : String} {after : Array Edge} {guard : Option (Nat × Bool)}

theorem q_val (hc : ∀ x, tmOk adr (opnd σ x) (ρ x)) {x : Operand} {v : Value} (h : opnd σ x = .val v) : ρ x = v := by
  have := hc x; rw [h] at this; exact this
theorem q_loc (hc : ∀ x, tmOk adr (opnd σ x) (ρ x)) {x : Operand} {k o : Nat} (h : opnd σ x = .loc k o) : ρ x = .pointer (some ⟨adr k, o, none⟩) := by
  have := hc x; rw [h] at this; exact this

theorem q_pick (hc : ∀ x, tmOk adr (opnd σ x) (ρ x)) {c a b : Operand} (H : vcQ cx ⟨dst, .pick c a b, ty, pos, after, guard⟩ K σ loc rd) : QRun cx.P adr ρ ⟨dst, .pick c a b, ty, pos, after, guard⟩ h K loc := by
  simp only [vcQ] at H
  cases hx : opnd σ c with
  | val v =>
    rw [hx] at H
    cases v <;> simp only at H
    rename_i t
    have e := q_val hc hx
    cases t with
    | true => exact ⟨_, _, H, hc a, by simp only [execOp]; rw [e]; exact ⟨rfl, rfl⟩⟩
    | false => exact ⟨_, _, H, hc b, by simp only [execOp]; rw [e]; exact ⟨rfl, rfl⟩⟩
  | _ => rw [hx] at H; exact H.elim

theorem q_build (tok : TOk cx.P cx.T) (hc : ∀ x, tmOk adr (opnd σ x) (ρ x)) {t : TypeId} {ps : Array (Nat × Operand)} (H : vcQ cx ⟨dst, .build t ps, ty, pos, after, guard⟩ K σ loc rd) :
    QRun cx.P adr ρ ⟨dst, .build t ps, ty, pos, after, guard⟩ h K loc := by
  simp only [vcQ] at H
  cases hp : parts σ ps.toList with
  | none => rw [hp] at H; exact H.elim
  | some vs =>
    rw [hp] at H
    have hps : (ps.map fun (i, x) => (i, ρ x)).toList = vs := by rw [Array.toList_map]; exact parts_ok hc _ _ hp
    simp only at H
    cases hk : (cx.T t).kind <;> rw [hk] at H <;> simp only at H
    case struct offs ts =>
      cases hf : fillL cx.T (structPlace offs ts) vs (cx.T t).zero with
      | none => rw [hf] at H; exact H.elim
      | some c =>
        rw [hf] at H
        obtain ⟨fs, hu, ho, ht⟩ := tok.struct hk
        refine QRun.mk' H (wpH_v ?_)
        unfold Instr.build
        refine wpH_b (tok.zero (by rw [hk]; rfl) ?_)
        refine wpH_b (wpH_under hu ?_)
        refine wpH_b ?_
        rw [Array.mapM_eq_mapM_toList]
        refine wpH_b (wpH_mapM (f := fun f : Field => (f.offset, (cx.T f.type).size)) _ (fun f hf K h hK => ?_) ?_)
        · have := tok.fields t offs ts hk f.type (by rw [← ht]; exact List.mem_map_of_mem hf)
          exact wpH_b (tok.size this.1 hK)
        · refine wpH_p ?_
          have hpl : ∀ i off u, structPlace offs ts i = some (off, u) → ((fs.toList.map fun f : Field => (f.offset, (cx.T f.type).size)).toArray[i]?) = some (off, (cx.T u).size) := by
            intro i off u hi
            unfold structPlace at hi
            subst ho; subst ht
            simp only [List.getElem?_map] at hi
            simp only [List.getElem?_toArray, List.getElem?_map]
            cases hfi : fs.toList[i]? with
            | none => simp [hfi] at hi
            | some f => simp [hfi] at hi; simp [hi.1, hi.2]
          obtain ⟨rs, hr, hrl⟩ := fill_ok (T := cx.T) hpl vs _ c _ hf (tok.zcells (by rw [hk]; rfl))
          rw [hps]
          simp only [hr]
          refine wpH_p ?_
          refine ⟨?_, rfl⟩
          rw [← hrl]
    case array n e =>
      cases hf : fillL cx.T (arrPlace cx.T e n) vs (cx.T t).zero with
      | none => rw [hf] at H; exact H.elim
      | some c =>
        rw [hf] at H
        have hu := tok.array hk
        have he := tok.arr t n e hk
        refine QRun.mk' H (wpH_v ?_)
        unfold Instr.build
        refine wpH_b (tok.zero (by rw [hk]; rfl) ?_)
        refine wpH_b (wpH_under hu ?_)
        refine wpH_b (tok.size he ?_)
        have hpl : ∀ i off u, arrPlace cx.T e n i = some (off, u) → some (i * (cx.T e).size, (cx.T e).size) = some (off, (cx.T u).size) := by
          intro i off u hi
          unfold arrPlace at hi
          cases hb : Nat.blt i n <;> simp [hb] at hi
          obtain ⟨rfl, rfl⟩ := hi
          rfl
        obtain ⟨rs, hr, hrl⟩ := fill_ok (T := cx.T) (pl := fun i => some (i * (cx.T e).size, (cx.T e).size)) hpl vs _ c _ hf (tok.zcells (by rw [hk]; rfl))
        rw [hps]
        simp only [hr]
        refine wpH_p ?_
        refine ⟨?_, rfl⟩
        rw [← hrl]

theorem at_len {g : Bool} {vs : List Value} (h : g = false → vs.length = 1) : cellsV g (mkA g vs) = vs := by
  cases g with
  | true => simp [cellsV, Value.cells, mkA]
  | false =>
    have := h rfl
    match vs, this with
    | [v], _ => rfl

/-- A typed value: its cells. -/
theorem vEx1_some {t : TI} {K : Value → Prop} (H : vEx1 t K) : ∃ vs : List Value, vs.length = t.sh.length ∧ K (mkA t.kind.agg vs) := by
  unfold vEx1 at H
  cases hg : t.kind.agg <;> rw [hg] at H <;> exact exs_some H

theorem tok_one (tok : TOk cx.P cx.T) {t : TypeId} (hk : (cx.T t).kind.val = true) (hg : (cx.T t).kind.agg = false) : (cx.T t).size = 1 := by
  exact tok.one t hk hg

theorem q_load (tok : TOk cx.P cx.T) (hrd : ∀ φ, rd φ → φ h) (hc : ∀ x, tmOk adr (opnd σ x) (ρ x)) {t : TypeId} {x : Operand} (hk : (cx.T t).kind.val = true)
    (hl : ∀ k o, opnd σ x ≠ .loc k o) (H : vcQ cx ⟨dst, .load t x, ty, pos, after, guard⟩ K σ loc rd) :
    QRun cx.P adr ρ ⟨dst, .load t x, ty, pos, after, guard⟩ h K loc := by
  simp only [vcQ] at H
  cases hx : opnd σ x with
  | loc k o => exact absurd hx (hl k o)
  | any => rw [hx] at H; exact H.elim
  | val v =>
    rw [hx] at H
    cases v <;> try exact False.elim H
    rename_i p
    cases p with
    | none => exact H.elim
    | some a =>
      simp only [hk] at H
      obtain ⟨vs, hlen, hat, hK⟩ := vEx1_some H
      obtain ⟨_, _, _, _, _, _, hsh, _⟩ := tok.info t hk
      rw [at_len (fun hg => by rw [hlen, hsh]; exact tok_one tok hk hg)] at hat
      refine QRun.mk' hK (wpH_v ?_)
      unfold Instr.loadAt
      rw [q_val hc hx]
      refine wpH_b ?_
      unfold Instr.sureAddr
      refine wpH_p ?_
      exact wpH_loadVar tok hk (by rw [hlen, hsh]) (hrd _ hat) ⟨rfl, rfl⟩

theorem q_nilCheck (hc : ∀ x, tmOk adr (opnd σ x) (ρ x)) {x : Operand} (H : vcQ cx ⟨dst, .nilCheck x, ty, pos, after, guard⟩ K σ loc rd) : QRun cx.P adr ρ ⟨dst, .nilCheck x, ty, pos, after, guard⟩ h K loc := by
  simp only [vcQ] at H
  cases hx : opnd σ x with
  | any => rw [hx] at H; exact H.elim
  | loc k o =>
    rw [hx] at H
    refine ⟨_, .pointer (some ⟨adr k, o, none⟩), H, rfl, ?_⟩
    simp only [execOp, q_loc hc hx]
    exact ⟨rfl, rfl⟩
  | val v =>
    rw [hx] at H
    cases v <;> try exact False.elim H
    case pointer p =>
      unfold ptrM at H
      cases p with
      | none => exact H.elim
      | some a => exact QRun.mk' H (by simp only [execOp, q_val hc hx]; exact ⟨rfl, rfl⟩)
    case func f fi ca =>
      cases f <;> try exact False.elim H
      exact QRun.mk' H (by simp only [execOp, q_val hc hx]; exact ⟨rfl, rfl⟩)

theorem guard_plain {P : Program} {op : BinOp} {t : TypeId} {a b : Operand} {x y : Value} {K' : Unit → Hp → Prop} (h1 : ¬(x = .nilIface ∧ y = .nilIface)) (h2 : ∀ xs ys, ¬(x = .agg xs ∧ y = .agg ys)) (H : K' () h) :
    wpH P (eqGuard op t a b x y) K' h := by
  unfold eqGuard
  cases op <;> first
    | exact H
    | (cases x <;> cases y <;> first | exact H | exact absurd ⟨rfl, rfl⟩ h1 | exact absurd ⟨rfl, rfl⟩ (h2 _ _))

theorem eq_ptr {P : Program} {t : TypeId} {p : Option Addr} {K' : Bool → Hp → Prop} (hu : ∃ e, P.underlying t = some (.pointer e)) (H : K' p.isNone h) : wpH P (Op.equal t (.pointer p) (.pointer none)) K' h := by
  obtain ⟨e, hu⟩ := hu
  unfold Op.equal Op.maxDepth Op.equalIn
  refine wpH_b (wpH_under hu ?_)
  cases p with
  | none => exact H
  | some a => exact H
end

end Go.Proofs.YtkhfofnglkekoaaDoor
