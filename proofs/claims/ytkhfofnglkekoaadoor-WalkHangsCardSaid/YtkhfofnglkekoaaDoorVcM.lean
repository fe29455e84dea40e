/- Own verification-condition framework, part M: a quiet operation gives one result. Conditions: none. -/
import Derived.Test.YtkhfofnglkekoaaDoorVcL
namespace Go.Proofs.YtkhfofnglkekoaaDoor

def setL (lk : Option (Nat × Bool)) (u : Option (List Value × TypeId)) (loc : Loc) : Loc := match lk with | some (k, true) => upd loc k u | _ => loc

abbrev QF := (SV → Loc → Prop) → Loc → ((Hp → Prop) → Prop) → Prop

/-- The formula speaks of one result. -/
def Wt (lk : Option (Nat × Bool)) (F : QF) : Prop :=
  ∀ K loc rd, F K loc rd → ∃ sv u, K sv (setL lk u loc) ∧ ∀ K2 loc2 rd2, (∀ φ, rd φ → rd2 φ) → (∀ k b, lk = some (k, b) → loc2 k = loc k) → K2 sv (setL lk u loc2) → F K2 loc2 rd2

theorem Wt.ret (sv : SV) : Wt none (fun K loc _ => K sv loc) := fun _ _ _ H => ⟨sv, none, H, fun _ _ _ _ _ h => h⟩
theorem Wt.no {lk : Option (Nat × Bool)} : Wt lk (fun _ _ _ => False) := fun _ _ _ H => H.elim
theorem Wt.and {lk : Option (Nat × Bool)} {F : QF} {p : Prop} (w : Wt lk F) : Wt lk (fun K loc rd => p ∧ F K loc rd) := fun K loc rd ⟨hp, H⟩ =>
  let ⟨sv, u, h1, h2⟩ := w K loc rd H
  ⟨sv, u, h1, fun K2 loc2 rd2 a b c => ⟨hp, h2 K2 loc2 rd2 a b c⟩⟩
theorem Wt.rd {lk : Option (Nat × Bool)} {F : QF} {φ : Hp → Prop} (w : Wt lk F) : Wt lk (fun K loc rd => rd φ ∧ F K loc rd) := fun K loc rd ⟨hp, H⟩ =>
  let ⟨sv, u, h1, h2⟩ := w K loc rd H
  ⟨sv, u, h1, fun K2 loc2 rd2 a b c => ⟨a _ hp, h2 K2 loc2 rd2 a b c⟩⟩
theorem Wt.ex {lk : Option (Nat × Bool)} {α : Type} {F : α → QF} (w : ∀ x, Wt lk (F x)) : Wt lk (fun K loc rd => ∃ x, F x K loc rd) := fun K loc rd ⟨x, H⟩ =>
  let ⟨sv, u, h1, h2⟩ := w x K loc rd H
  ⟨sv, u, h1, fun K2 loc2 rd2 a b c => ⟨x, h2 K2 loc2 rd2 a b c⟩⟩
theorem Wt.bs {lk : Option (Nat × Bool)} {F G : QF} {b : Bool} (w : Wt lk F) (v : Wt lk G) : Wt lk (fun K loc rd => bsplit b (F K loc rd) (G K loc rd)) := by
  cases b <;> assumption
theorem Wt.pm {lk : Option (Nat × Bool)} {p : Option Addr} {F : Addr → QF} (w : ∀ a, Wt lk (F a)) : Wt lk (fun K loc rd => ptrM p fun a => F a K loc rd) := by
  cases p
  · exact Wt.no
  · exact w _

theorem Wt.shex {lk : Option (Nat × Bool)} (s : Sh) {F : Value → QF} (w : ∀ v, Wt lk (F v)) : Wt lk (fun K loc rd => s.ex fun v => F v K loc rd) := by
  cases s <;> simp only [Sh.ex]
  case slice => exact Wt.ex fun a => Wt.ex fun l => Wt.ex fun c => w _
  case fn => exact Wt.ex fun a => Wt.ex fun l => Wt.ex fun c => w _
  all_goals exact Wt.ex fun n => w _

theorem Wt.exs {lk : Option (Nat × Bool)} : ∀ (s : List Sh) {F : List Value → QF}, (∀ v, Wt lk (F v)) → Wt lk (fun K loc rd => Go.Proofs.YtkhfofnglkekoaaDoor.exs s fun v => F v K loc rd)
  | [], _, w => w []
  | s :: r, F, w => Wt.shex s fun v => Wt.exs r (F := fun vs => F (v :: vs)) fun vs => w _

theorem Wt.vex {lk : Option (Nat × Bool)} (t : TI) {F : Value → QF} (w : ∀ v, Wt lk (F v)) : Wt lk (fun K loc rd => vEx1 t fun v => F v K loc rd) := by
  unfold vEx1
  cases t.kind.agg
  · exact Wt.exs t.sh fun _ => w _
  · exact Wt.exs t.sh fun _ => w _

theorem Wt.arith {lk : Option (Nat × Bool)} {k : IntKind} {n : Int} {F : Value → QF} (w : ∀ v, Wt lk (F v)) : Wt lk (fun K loc rd => arithK k n fun v => F v K loc rd) := by
  cases k
  all_goals
    simp only [arithK]
    first
      | exact w _
      | exact Wt.and (w _)

theorem Wt.intBin {lk : Option (Nat × Bool)} {op : BinOp} {k : IntKind} {m n : Int} {F : Value → QF} (w : ∀ v, Wt lk (F v)) : Wt lk (fun K loc rd => Go.Proofs.YtkhfofnglkekoaaDoor.intBin op k m n fun v => F v K loc rd) := by
  cases op
  all_goals
    simp only [Go.Proofs.YtkhfofnglkekoaaDoor.intBin]
    first
      | exact w _
      | exact Wt.arith w
      | exact Wt.and (Wt.arith w)
      | exact Wt.and (w _)
      | exact Wt.no

theorem Wt.ptrEq {lk : Option (Nat × Bool)} {p q : Option Addr} {b : Bool} {F : Bool → QF} (w : ∀ v, Wt lk (F v)) : Wt lk (fun K loc rd => Go.Proofs.YtkhfofnglkekoaaDoor.ptrEq p q b fun v => F v K loc rd) := by
  unfold Go.Proofs.YtkhfofnglkekoaaDoor.ptrEq
  cases q
  · exact w _
  · cases p
    · exact w _
    · exact Wt.and (w _)

theorem Wt.binV {lk : Option (Nat × Bool)} {eqt : Nat → List Value → Bool} {kd : Kd} {op : BinOp} {t : TypeId} {x y : Value} {F : Value → QF} (w : ∀ v, Wt lk (F v)) :
    Wt lk (fun K loc rd => Go.Proofs.YtkhfofnglkekoaaDoor.binV eqt kd op t x y fun v => F v K loc rd) := by
  unfold Go.Proofs.YtkhfofnglkekoaaDoor.binV
  cases x <;> cases y <;> (try dsimp only) <;> try exact Wt.no
  case int.int k m k' n =>
    cases op <;> (try dsimp only)
    case shl => exact Wt.and (w _)
    case shr => exact Wt.and (w _)
    all_goals
      cases decide (k = k')
      · exact Wt.no
      · exact Wt.intBin w
  case string.string a b =>
    cases op <;> simp only [strBin] <;> first
      | exact Wt.no
      | exact w _
      | exact Wt.and (w _)
  case bool.bool a b =>
    cases kd <;> (try dsimp only) <;> try exact Wt.no
    cases op <;> first
      | exact Wt.no
      | exact w _
  case pointer.pointer a b =>
    cases kd <;> (try dsimp only) <;> try exact Wt.no
    cases op <;> first
      | exact Wt.no
      | exact Wt.ptrEq (F := fun b => F (.bool b)) fun b => w _
  case slice.slice a l k b m c =>
    cases kd <;> cases b <;> (try dsimp only) <;> try exact Wt.no
    cases op <;> first
      | exact Wt.no
      | exact w _
  case map.map a b =>
    cases kd <;> cases b <;> (try dsimp only) <;> try exact Wt.no
    cases op <;> first
      | exact Wt.no
      | exact w _
  case agg.agg xs ys =>
    cases eqt t xs.toList && eqt t ys.toList <;> (try dsimp only) <;> try exact Wt.no
    cases op <;> first
      | exact Wt.no
      | exact w _

/-- Every quiet operation that touches no local. -/
theorem vcQ_wit0 {cx : Cx} {o : Oper} {σ : Env} (hl : locOp σ o = false) : Wt none (fun K loc rd => vcQ cx o K σ loc rd) := by
  obtain ⟨dst, op, ty, pos, after, guard⟩ := o
  cases op <;> simp only [vcQ] <;> try exact Wt.no
  case move x => exact Wt.ret _
  case assign x => exact Wt.ret _
  case pick c a b =>
    cases opnd σ c <;> (try dsimp only) <;> try exact Wt.no
    rename_i v
    cases v <;> (try dsimp only) <;> try exact Wt.no
    exact Wt.bs (Wt.ret _) (Wt.ret _)
  case alloc e => simp [locOp] at hl
  case box e x => simp [locOp] at hl
  case store t x v => simp [locOp] at hl
  case build t ps =>
    cases parts σ ps.toList <;> (try dsimp only) <;> try exact Wt.no
    rename_i vs
    cases (cx.T t).kind <;> (try dsimp only) <;> try exact Wt.no
    · cases fillL cx.T (arrPlace cx.T _ _) vs (cx.T t).zero <;> (try dsimp only)
      · exact Wt.no
      · exact Wt.ret _
    · cases fillL cx.T (structPlace _ _) vs (cx.T t).zero <;> (try dsimp only)
      · exact Wt.no
      · exact Wt.ret _
  case load t x =>
    cases hx : opnd σ x <;> (try dsimp only) <;> try exact Wt.no
    · rename_i v
      cases v <;> (try dsimp only) <;> try exact Wt.no
      rename_i p
      cases p <;> (try dsimp only)
      · exact Wt.no
      · cases (cx.T t).kind.val <;> (try dsimp only)
        · exact Wt.no
        · exact Wt.vex _ (F := fun v K loc rd => rd (fun h => At h _ (cellsV (cx.T t).kind.agg v)) ∧ K (.val v) loc) fun v => Wt.rd (Wt.ret _)
    · simp [locOp, hx] at hl
  case nilCheck x =>
    cases opnd σ x <;> (try dsimp only) <;> try exact Wt.no
    · rename_i v
      cases v <;> (try dsimp only) <;> try exact Wt.no
      · exact Wt.pm (F := fun a K loc _ => K (.val (.pointer (some a))) loc) fun _ => Wt.ret _
      · rename_i f _ _
        cases f <;> (try dsimp only) <;> first
          | exact Wt.no
          | exact Wt.ret _
    · exact Wt.ret _
  case binOp op t x y _ =>
    cases opnd σ x <;> cases opnd σ y <;> (try dsimp only) <;> try exact Wt.no
    exact Wt.binV (F := fun v K loc _ => K (.val v) loc) fun _ => Wt.ret _
  case unOp op t x =>
    cases op <;> cases opnd σ x <;> (try dsimp only) <;> try exact Wt.no
    all_goals
      rename_i v
      cases v <;> (try dsimp only) <;> first
        | exact Wt.no
        | exact Wt.ret _
        | exact Wt.arith (F := fun v K loc _ => K (.val v) loc) fun _ => Wt.ret _
  case convert s d x =>
    cases opnd σ x <;> (try dsimp only) <;> try exact Wt.no
    rename_i v
    cases v <;> (try dsimp only) <;> try exact Wt.no
    · cases (cx.T s).kind <;> cases (cx.T d).kind <;> (try dsimp only) <;> first
        | exact Wt.no
        | exact Wt.ret _
    · cases (cx.T s).kind <;> cases (cx.T d).kind <;> (try dsimp only) <;> first
        | exact Wt.no
        | exact Wt.ret _
    · cases (cx.T s).kind <;> cases (cx.T d).kind <;> (try dsimp only) <;> try exact Wt.no
      rename_i e
      cases (cx.T e).kind <;> (try dsimp only) <;> try exact Wt.no
      rename_i k
      cases k <;> (try dsimp only) <;> try exact Wt.no
      exact Wt.ex fun s => Wt.rd (Wt.ret _)
  case makeFunc f fi ca =>
    cases vals σ fi.toList <;> cases vals σ ca.toList <;> (try dsimp only) <;> first
      | exact Wt.no
      | exact Wt.ret _
  case slice t x lo hi mx =>
    cases mx <;> (try dsimp only) <;> try exact Wt.no
    cases lo with
    | none =>
      dsimp only
      cases opnd σ x <;> (try dsimp only) <;> try exact Wt.no
      rename_i v
      cases v <;> (try dsimp only) <;> try exact Wt.no
      · cases (cx.T t).kind <;> (try dsimp only) <;> try exact Wt.no
        cases hi with
        | none => exact Wt.and (Wt.and (Wt.and (Wt.ret _)))
        | some r =>
          dsimp only
          cases opnd σ r <;> (try dsimp only) <;> try exact Wt.no
          rename_i v
          cases v <;> (try dsimp only) <;> try exact Wt.no
          exact Wt.and (Wt.and (Wt.and (Wt.ret _)))
      · rename_i p
        cases p <;> (try dsimp only) <;> try exact Wt.no
        cases (cx.T t).kind <;> (try dsimp only) <;> try exact Wt.no
        cases hi with
        | none => exact Wt.and (Wt.and (Wt.and (Wt.ret _)))
        | some r =>
          dsimp only
          cases opnd σ r <;> (try dsimp only) <;> try exact Wt.no
          rename_i v
          cases v <;> (try dsimp only) <;> try exact Wt.no
          exact Wt.and (Wt.and (Wt.and (Wt.ret _)))
      · cases (cx.T t).kind <;> (try dsimp only) <;> try exact Wt.no
        cases hi with
        | none => exact Wt.and (Wt.and (Wt.and (Wt.ret _)))
        | some r =>
          dsimp only
          cases opnd σ r <;> (try dsimp only) <;> try exact Wt.no
          rename_i v
          cases v <;> (try dsimp only) <;> try exact Wt.no
          exact Wt.and (Wt.and (Wt.and (Wt.ret _)))
    | some l =>
      dsimp only
      cases opnd σ l <;> (try dsimp only) <;> try exact Wt.no
      rename_i v
      cases v <;> (try dsimp only) <;> try exact Wt.no
      cases opnd σ x <;> (try dsimp only) <;> try exact Wt.no
      rename_i v
      cases v <;> (try dsimp only) <;> try exact Wt.no
      · cases (cx.T t).kind <;> (try dsimp only) <;> try exact Wt.no
        cases hi with
        | none => exact Wt.and (Wt.and (Wt.and (Wt.ret _)))
        | some r =>
          dsimp only
          cases opnd σ r <;> (try dsimp only) <;> try exact Wt.no
          rename_i v
          cases v <;> (try dsimp only) <;> try exact Wt.no
          exact Wt.and (Wt.and (Wt.and (Wt.ret _)))
      · rename_i p
        cases p <;> (try dsimp only) <;> try exact Wt.no
        cases (cx.T t).kind <;> (try dsimp only) <;> try exact Wt.no
        cases hi with
        | none => exact Wt.and (Wt.and (Wt.and (Wt.ret _)))
        | some r =>
          dsimp only
          cases opnd σ r <;> (try dsimp only) <;> try exact Wt.no
          rename_i v
          cases v <;> (try dsimp only) <;> try exact Wt.no
          exact Wt.and (Wt.and (Wt.and (Wt.ret _)))
      · cases (cx.T t).kind <;> (try dsimp only) <;> try exact Wt.no
        cases hi with
        | none => exact Wt.and (Wt.and (Wt.and (Wt.ret _)))
        | some r =>
          dsimp only
          cases opnd σ r <;> (try dsimp only) <;> try exact Wt.no
          rename_i v
          cases v <;> (try dsimp only) <;> try exact Wt.no
          exact Wt.and (Wt.and (Wt.and (Wt.ret _)))
  case fieldAddr s x f =>
    cases (cx.T s).kind <;> (try dsimp only) <;> try exact Wt.no
    rename_i offs _
    cases offs[f]? <;> (try dsimp only) <;> try exact Wt.no
    cases opnd σ x <;> (try dsimp only) <;> try exact Wt.no
    · rename_i v
      cases v <;> (try dsimp only) <;> try exact Wt.no
      rename_i p
      cases p <;> (try dsimp only) <;> first
        | exact Wt.no
        | exact Wt.ret _
    · exact Wt.ret _
  case field t x f =>
    cases (cx.T t).kind <;> cases opnd σ x <;> (try dsimp only) <;> try exact Wt.no
    rename_i offs ts v
    cases v <;> (try dsimp only) <;> try exact Wt.no
    rename_i cs
    cases structPlace offs ts f <;> (try dsimp only) <;> try exact Wt.no
    rename_i p
    obtain ⟨off, u⟩ := p
    dsimp only
    cases Nat.ble (off + (cx.T u).size) cs.toList.length <;> (try dsimp only) <;> try exact Wt.no
    cases (cx.T u).kind.agg <;> (try dsimp only) <;> exact Wt.ret _
  case indexAddr t x i =>
    cases opnd σ i <;> (try dsimp only) <;> try exact Wt.no
    rename_i v
    cases v <;> (try dsimp only) <;> try exact Wt.no
    cases opnd σ x <;> (try dsimp only) <;> try exact Wt.no
    rename_i v
    cases v <;> (try dsimp only) <;> try exact Wt.no
    · rename_i p
      cases p <;> (try dsimp only) <;> try exact Wt.no
      cases (cx.T t).kind <;> (try dsimp only) <;> try exact Wt.no
      exact Wt.and (Wt.and (Wt.ret _))
    · cases (cx.T t).kind <;> (try dsimp only) <;> try exact Wt.no
      exact Wt.and (Wt.and (Wt.pm (F := fun a K loc _ => K (.val (.pointer (some (a.add _)))) loc) fun _ => Wt.ret _))
  case index t x i =>
    cases opnd σ i <;> (try dsimp only) <;> try exact Wt.no
    rename_i v
    cases v <;> (try dsimp only) <;> try exact Wt.no
    cases opnd σ x <;> (try dsimp only) <;> try exact Wt.no
    rename_i v
    cases v <;> (try dsimp only) <;> try exact Wt.no
    · cases (cx.T t).kind <;> (try dsimp only) <;> try exact Wt.no
      exact Wt.and (Wt.and (Wt.ret _))
    · rename_i cs
      cases (cx.T t).kind <;> (try dsimp only) <;> try exact Wt.no
      rename_i n e
      cases (cx.T e).kind.agg <;> (try dsimp only) <;> try exact Wt.no
      generalize (cx.T e).size = z
      match z with
      | 0 => exact Wt.no
      | 1 => exact Wt.and (Wt.and (Wt.vex _ (F := fun v K loc _ => cs.toList[_]? = some v ∧ K (.val v) loc) fun v => Wt.and (Wt.ret _)))
      | n + 2 => exact Wt.no
  case extract x i =>
    cases opnd σ x <;> (try dsimp only) <;> try exact Wt.no
    rename_i v
    cases v <;> (try dsimp only) <;> try exact Wt.no
    rename_i vs
    cases vs.toList[i]? <;> (try dsimp only) <;> first
      | exact Wt.no
      | exact Wt.ret _
  case lookup t m k ok =>
    cases (cx.T t).kind <;> (try dsimp only) <;> try exact Wt.no
    rename_i kt e
    cases opnd σ m <;> (try dsimp only) <;> try exact Wt.no
    rename_i v
    cases v <;> (try dsimp only) <;> try exact Wt.no
    rename_i r
    cases opnd σ k <;> (try dsimp only) <;> try exact Wt.no
    rename_i key
    cases keyOk (cx.T kt).kind key <;> (try dsimp only) <;> try exact Wt.no
    exact Wt.ex fun es => Wt.rd (Wt.and (Wt.vex _ (F := fun v K loc _ => (mfind key es).getD (mkV (cx.T e).kind.agg (cx.T e).zero) = v ∧ K (.val (cond ok (.tuple #[v, .bool (mfind key es).isSome]) v)) loc) fun v => Wt.and (Wt.ret _)))
  case call c =>
    split <;> try exact Wt.no
    · cases argKd cx.T c.argTypes.toList <;> (try dsimp only) <;> first
        | exact Wt.no
        | exact Wt.ret _
    · cases argKd cx.T c.argTypes.toList <;> (try dsimp only) <;> first
        | exact Wt.no
        | exact Wt.ret _
    · cases argKd cx.T c.argTypes.toList <;> (try dsimp only) <;> first
        | exact Wt.no
        | exact Wt.ex fun es => Wt.rd (Wt.ret _)
    · cases argKd cx.T c.argTypes.toList <;> (try dsimp only) <;> first
        | exact Wt.no
        | exact Wt.ret _
    · rename_i k x r _ _
      cases foldInt imax k x r <;> (try dsimp only) <;> first
        | exact Wt.no
        | exact Wt.ret _
    · rename_i k x r _ _
      cases foldInt imin k x r <;> (try dsimp only) <;> first
        | exact Wt.no
        | exact Wt.ret _

end Go.Proofs.YtkhfofnglkekoaaDoor
