/- Own verification-condition framework, part O: the result of a quiet operation is one. Conditions: none. -/
import Derived.Test.YtkhfofnglkekoaaDoorVcN
namespace Go.Proofs.YtkhfofnglkekoaaDoor

/-- Two formulas of the operation speak of the same result. -/
def Un (F : QF) : Prop := ∀ K1 K2 loc rd h, (∀ φ : Hp → Prop, rd φ → φ h) → F K1 loc rd → F K2 loc rd → ∃ sv loc', K1 sv loc' ∧ K2 sv loc'

theorem Un.ret (sv : SV) : Un (fun K loc _ => K sv loc) := fun _ _ _ _ _ _ H1 H2 => ⟨_, _, H1, H2⟩
theorem Un.no : Un (fun _ _ _ => False) := fun _ _ _ _ _ _ H _ => H.elim
theorem Un.and {F : QF} {p : Prop} (w : Un F) : Un (fun K loc rd => p ∧ F K loc rd) := fun _ _ _ _ _ c ⟨_, H1⟩ ⟨_, H2⟩ => w _ _ _ _ _ c H1 H2
theorem Un.bs {F G : QF} {b : Bool} (w : Un F) (v : Un G) : Un (fun K loc rd => bsplit b (F K loc rd) (G K loc rd)) := by
  cases b <;> assumption
theorem Un.pm {p : Option Addr} {F : Addr → QF} (w : ∀ a, Un (F a)) : Un (fun K loc rd => ptrM p fun a => F a K loc rd) := by
  cases p
  · exact Un.no
  · exact w _

theorem Un.arith {k : IntKind} {n : Int} {F : Value → QF} (w : ∀ v, Un (F v)) : Un (fun K loc rd => arithK k n fun v => F v K loc rd) := by
  cases k
  all_goals
    simp only [arithK]
    first
      | exact w _
      | exact Un.and (w _)

theorem Un.intBin {op : BinOp} {k : IntKind} {m n : Int} {F : Value → QF} (w : ∀ v, Un (F v)) : Un (fun K loc rd => Go.Proofs.YtkhfofnglkekoaaDoor.intBin op k m n fun v => F v K loc rd) := by
  cases op
  all_goals
    simp only [Go.Proofs.YtkhfofnglkekoaaDoor.intBin]
    first
      | exact w _
      | exact Un.arith w
      | exact Un.and (Un.arith w)
      | exact Un.and (w _)
      | exact Un.no

theorem Un.ptrEq {p q : Option Addr} {b : Bool} {F : Bool → QF} (w : ∀ v, Un (F v)) : Un (fun K loc rd => Go.Proofs.YtkhfofnglkekoaaDoor.ptrEq p q b fun v => F v K loc rd) := by
  unfold Go.Proofs.YtkhfofnglkekoaaDoor.ptrEq
  cases q
  · exact w _
  · cases p
    · exact w _
    · exact Un.and (w _)

theorem Sh.ex_some : ∀ (s : Sh) {F : Value → Prop}, s.ex F → ∃ v, F v := by
  intro s F H
  cases s
  case slice => obtain ⟨a, l, c, H⟩ := H; exact ⟨_, H⟩
  case fn => obtain ⟨a, l, c, H⟩ := H; exact ⟨_, H⟩
  all_goals obtain ⟨n, H⟩ := H; exact ⟨_, H⟩

theorem exsO : ∀ (s : List Sh) {F : List Value → Prop}, exs s F → ∃ vs, vs.length = s.length ∧ F vs
  | [], _, H => ⟨[], rfl, H⟩
  | s :: r, F, H => by
    obtain ⟨v, H⟩ := Sh.ex_some s H
    obtain ⟨vs, hl, H⟩ := exsO r H
    exact ⟨v :: vs, by simp [hl], H⟩

theorem vEx1O {t : TI} {F : Value → Prop} (H : vEx1 t F) : ∃ v, F v := by
  unfold vEx1 at H
  split at H
  · obtain ⟨vs, _, H⟩ := exsO _ H; exact ⟨_, H⟩
  · obtain ⟨vs, _, H⟩ := exsO _ H; exact ⟨_, H⟩

theorem At.eq {h : Hp} {a : Addr} {xs ys : List Value} (hl : xs.length = ys.length) (h1 : At h a xs) (h2 : At h a ys) : xs = ys := by
  obtain ⟨_, c, e, fr, hb, H1⟩ := h1
  obtain ⟨_, c2, e2, fr2, hb2, H2⟩ := h2
  rw [hb] at hb2
  cases hb2
  apply List.ext_getElem? 
  intro i
  by_cases hi : i < xs.length
  · rw [← H1 i hi, H2 i (hl ▸ hi)]
  · rw [List.getElem?_eq_none (by omega), List.getElem?_eq_none (by omega)]

theorem Un.loadv {t : TI} {a : Addr} : Un (fun K loc rd => vEx1 t fun v => rd (fun h => At h a (cellsV t.kind.agg v)) ∧ K (.val v) loc) := by
  intro K1 K2 loc rd h c H1 H2
  simp only [vEx1] at H1 H2
  cases hg : t.kind.agg <;> simp only [hg] at H1 H2
  · obtain ⟨vs, hl, r1, H1⟩ := exsO _ H1
    obtain ⟨us, hl2, r2, H2⟩ := exsO _ H2
    have := At.eq (by rfl) (c _ r1) (c _ r2)
    simp only [cellsV, List.cons.injEq, and_true] at this
    rw [this] at H1
    exact ⟨_, _, H1, H2⟩
  · obtain ⟨vs, hl, r1, H1⟩ := exsO _ H1
    obtain ⟨us, hl2, r2, H2⟩ := exsO _ H2
    have e1 : ∀ x : List Value, (Value.agg x.toArray).cells.toList = x := fun x => rfl
    have := At.eq (by simp only [cellsV, e1]; omega) (c _ r1) (c _ r2)
    simp only [cellsV, e1] at this
    rw [this] at H1
    exact ⟨_, _, H1, H2⟩

theorem MapIs.eq {h : Hp} {r : Option Nat} {xs ys : List MapEntry} (h1 : MapIs h r xs) (h2 : MapIs h r ys) : xs = ys := by
  cases r with
  | none => simp only [MapIs] at h1 h2; rw [h1, h2]
  | some b =>
    obtain ⟨c1, h1⟩ := h1
    obtain ⟨c2, h2⟩ := h2
    rw [h1] at h2
    cases h2
    rfl

theorem Un.mlen {r : Option Nat} : Un (fun K loc rd => ∃ es, rd (fun h => MapIs h r es) ∧ K (.val (.int .i64 (es.length : Nat))) loc) := by
  rintro K1 K2 loc rd h c ⟨es, r1, H1⟩ ⟨fs, r2, H2⟩
  rw [MapIs.eq (c _ r1) (c _ r2)] at H1
  exact ⟨_, _, H1, H2⟩

theorem Un.lookv {cx : Cx} {kt e : TypeId} {key : Value} {ok : Bool} {r : Option Nat} : Un (fun K loc rd => ∃ es, rd (fun h => MapIs h r es) ∧ keysOf (cx.T kt).kind es ∧ vEx1 (cx.T e) fun v => (mfind key es).getD (mkV (cx.T e).kind.agg (cx.T e).zero) = v ∧
          K (.val (cond ok (.tuple #[v, .bool (mfind key es).isSome]) v)) loc) := by
  rintro K1 K2 loc rd h c ⟨es, r1, _, H1⟩ ⟨fs, r2, _, H2⟩
  obtain rfl := MapIs.eq (c _ r1) (c _ r2)
  obtain ⟨v, rfl, H1⟩ := vEx1O H1
  obtain ⟨u, rfl, H2⟩ := vEx1O H2
  exact ⟨_, _, H1, H2⟩

theorem Un.idxv {t : TI} {cs : List Value} {i : Nat} : Un (fun K loc _ => vEx1 t fun v => cs[i]? = some v ∧ K (.val v) loc) := by
  intro K1 K2 loc rd h c H1 H2
  obtain ⟨v, e1, H1⟩ := vEx1O H1
  obtain ⟨u, e2, H2⟩ := vEx1O H2
  rw [e1] at e2
  cases e2
  exact ⟨_, _, H1, H2⟩

theorem Un.bytes {a : Option Addr} {l : Nat} : Un (fun K loc rd => ∃ s' : ByteArray, rd (fun h => Bytes h a l s') ∧ K (.val (.string s')) loc) := by
  rintro K1 K2 loc rd h c ⟨s, r1, H1⟩ ⟨t, r2, H2⟩
  have : s = t := by
    obtain ⟨z1, b1⟩ := c _ r1
    obtain ⟨z2, b2⟩ := c _ r2
    have hz1 : s.data.toList.length = l := by rw [← z1]; rfl
    have hz2 : t.data.toList.length = l := by rw [← z2]; rfl
    have hl : s.data.toList = t.data.toList := by
      rcases b1 with b1 | ⟨a1, ha1, b1⟩
      · rw [List.eq_nil_of_length_eq_zero (hz1.trans b1), List.eq_nil_of_length_eq_zero (hz2.trans b1)]
      · rcases b2 with b2 | ⟨a2, ha2, b2⟩
        · rw [List.eq_nil_of_length_eq_zero (hz1.trans b2), List.eq_nil_of_length_eq_zero (hz2.trans b2)]
        · rw [ha1] at ha2
          cases ha2
          have := At.eq (by simp only [List.length_map]; omega) b1 b2
          refine (List.map_inj_right ?_).1 this
          intro x y hxy
          simp only [Value.int.injEq, true_and] at hxy
          exact UInt8.toNat_inj.1 (by omega)
    cases s; cases t
    simp only at hl
    congr 1
    exact Array.ext' hl
  subst this
  exact ⟨_, _, H1, H2⟩

theorem Un.binV {eqt : Nat → List Value → Bool} {kd : Kd} {op : BinOp} {t : TypeId} {x y : Value} {F : Value → QF} (w : ∀ v, Un (F v)) :
    Un (fun K loc rd => Go.Proofs.YtkhfofnglkekoaaDoor.binV eqt kd op t x y fun v => F v K loc rd) := by
  unfold Go.Proofs.YtkhfofnglkekoaaDoor.binV
  cases x <;> cases y <;> (try dsimp only) <;> try exact Un.no
  case int.int k m k' n =>
    cases op <;> (try dsimp only)
    case shl => exact Un.and (w _)
    case shr => exact Un.and (w _)
    all_goals
      cases decide (k = k')
      · exact Un.no
      · exact Un.intBin w
  case string.string a b =>
    cases op <;> simp only [strBin] <;> first
      | exact Un.no
      | exact w _
      | exact Un.and (w _)
  case bool.bool a b =>
    cases kd <;> (try dsimp only) <;> try exact Un.no
    cases op <;> first
      | exact Un.no
      | exact w _
  case pointer.pointer a b =>
    cases kd <;> (try dsimp only) <;> try exact Un.no
    cases op <;> first
      | exact Un.no
      | exact Un.ptrEq (F := fun b => F (.bool b)) fun b => w _
  case slice.slice a l k b m c =>
    cases kd <;> cases b <;> (try dsimp only) <;> try exact Un.no
    cases op <;> first
      | exact Un.no
      | exact w _
  case map.map a b =>
    cases kd <;> cases b <;> (try dsimp only) <;> try exact Un.no
    cases op <;> first
      | exact Un.no
      | exact w _
  case agg.agg xs ys =>
    cases eqt t xs.toList && eqt t ys.toList <;> (try dsimp only) <;> try exact Un.no
    cases op <;> first
      | exact Un.no
      | exact w _

/-- Every quiet operation that touches no local. -/
theorem vcQ_uni0 {cx : Cx} {o : Oper} {σ : Env} (hl : locOp σ o = false) : Un (fun K loc rd => vcQ cx o K σ loc rd) := by
  obtain ⟨dst, op, ty, pos, after, guard⟩ := o
  cases op <;> simp only [vcQ] <;> try exact Un.no
  case move x => exact Un.ret _
  case assign x => exact Un.ret _
  case pick c a b =>
    cases opnd σ c <;> (try dsimp only) <;> try exact Un.no
    rename_i v
    cases v <;> (try dsimp only) <;> try exact Un.no
    exact Un.bs (Un.ret _) (Un.ret _)
  case alloc e => simp [locOp] at hl
  case box e x => simp [locOp] at hl
  case store t x v => simp [locOp] at hl
  case build t ps =>
    cases parts σ ps.toList <;> (try dsimp only) <;> try exact Un.no
    rename_i vs
    cases (cx.T t).kind <;> (try dsimp only) <;> try exact Un.no
    · cases fillL cx.T (arrPlace cx.T _ _) vs (cx.T t).zero <;> (try dsimp only)
      · exact Un.no
      · exact Un.ret _
    · cases fillL cx.T (structPlace _ _) vs (cx.T t).zero <;> (try dsimp only)
      · exact Un.no
      · exact Un.ret _
  case load t x =>
    cases hx : opnd σ x <;> (try dsimp only) <;> try exact Un.no
    · rename_i v
      cases v <;> (try dsimp only) <;> try exact Un.no
      rename_i p
      cases p <;> (try dsimp only)
      · exact Un.no
      · cases (cx.T t).kind.val <;> (try dsimp only)
        · exact Un.no
        · exact Un.loadv
    · simp [locOp, hx] at hl
  case nilCheck x =>
    cases opnd σ x <;> (try dsimp only) <;> try exact Un.no
    · rename_i v
      cases v <;> (try dsimp only) <;> try exact Un.no
      · exact Un.pm (F := fun a K loc _ => K (.val (.pointer (some a))) loc) fun _ => Un.ret _
      · rename_i f _ _
        cases f <;> (try dsimp only) <;> first
          | exact Un.no
          | exact Un.ret _
    · exact Un.ret _
  case binOp op t x y _ =>
    cases opnd σ x <;> cases opnd σ y <;> (try dsimp only) <;> try exact Un.no
    exact Un.binV (F := fun v K loc _ => K (.val v) loc) fun _ => Un.ret _
  case unOp op t x =>
    cases op <;> cases opnd σ x <;> (try dsimp only) <;> try exact Un.no
    all_goals
      rename_i v
      cases v <;> (try dsimp only) <;> first
        | exact Un.no
        | exact Un.ret _
        | exact Un.arith (F := fun v K loc _ => K (.val v) loc) fun _ => Un.ret _
  case convert s d x =>
    cases opnd σ x <;> (try dsimp only) <;> try exact Un.no
    rename_i v
    cases v <;> (try dsimp only) <;> try exact Un.no
    · cases (cx.T s).kind <;> cases (cx.T d).kind <;> (try dsimp only) <;> first
        | exact Un.no
        | exact Un.ret _
    · cases (cx.T s).kind <;> cases (cx.T d).kind <;> (try dsimp only) <;> first
        | exact Un.no
        | exact Un.ret _
    · cases (cx.T s).kind <;> cases (cx.T d).kind <;> (try dsimp only) <;> try exact Un.no
      rename_i e
      cases (cx.T e).kind <;> (try dsimp only) <;> try exact Un.no
      rename_i k
      cases k <;> (try dsimp only) <;> try exact Un.no
      exact Un.bytes
  case makeFunc f fi ca =>
    cases vals σ fi.toList <;> cases vals σ ca.toList <;> (try dsimp only) <;> first
      | exact Un.no
      | exact Un.ret _
  case slice t x lo hi mx =>
    cases mx <;> (try dsimp only) <;> try exact Un.no
    cases lo with
    | none =>
      dsimp only
      cases opnd σ x <;> (try dsimp only) <;> try exact Un.no
      rename_i v
      cases v <;> (try dsimp only) <;> try exact Un.no
      · cases (cx.T t).kind <;> (try dsimp only) <;> try exact Un.no
        cases hi with
        | none => exact Un.and (Un.and (Un.and (Un.ret _)))
        | some r =>
          dsimp only
          cases opnd σ r <;> (try dsimp only) <;> try exact Un.no
          rename_i v
          cases v <;> (try dsimp only) <;> try exact Un.no
          exact Un.and (Un.and (Un.and (Un.ret _)))
      · rename_i p
        cases p <;> (try dsimp only) <;> try exact Un.no
        cases (cx.T t).kind <;> (try dsimp only) <;> try exact Un.no
        cases hi with
        | none => exact Un.and (Un.and (Un.and (Un.ret _)))
        | some r =>
          dsimp only
          cases opnd σ r <;> (try dsimp only) <;> try exact Un.no
          rename_i v
          cases v <;> (try dsimp only) <;> try exact Un.no
          exact Un.and (Un.and (Un.and (Un.ret _)))
      · cases (cx.T t).kind <;> (try dsimp only) <;> try exact Un.no
        cases hi with
        | none => exact Un.and (Un.and (Un.and (Un.ret _)))
        | some r =>
          dsimp only
          cases opnd σ r <;> (try dsimp only) <;> try exact Un.no
          rename_i v
          cases v <;> (try dsimp only) <;> try exact Un.no
          exact Un.and (Un.and (Un.and (Un.ret _)))
    | some l =>
      dsimp only
      cases opnd σ l <;> (try dsimp only) <;> try exact Un.no
      rename_i v
      cases v <;> (try dsimp only) <;> try exact Un.no
      cases opnd σ x <;> (try dsimp only) <;> try exact Un.no
      rename_i v
      cases v <;> (try dsimp only) <;> try exact Un.no
      · cases (cx.T t).kind <;> (try dsimp only) <;> try exact Un.no
        cases hi with
        | none => exact Un.and (Un.and (Un.and (Un.ret _)))
        | some r =>
          dsimp only
          cases opnd σ r <;> (try dsimp only) <;> try exact Un.no
          rename_i v
          cases v <;> (try dsimp only) <;> try exact Un.no
          exact Un.and (Un.and (Un.and (Un.ret _)))
      · rename_i p
        cases p <;> (try dsimp only) <;> try exact Un.no
        cases (cx.T t).kind <;> (try dsimp only) <;> try exact Un.no
        cases hi with
        | none => exact Un.and (Un.and (Un.and (Un.ret _)))
        | some r =>
          dsimp only
          cases opnd σ r <;> (try dsimp only) <;> try exact Un.no
          rename_i v
          cases v <;> (try dsimp only) <;> try exact Un.no
          exact Un.and (Un.and (Un.and (Un.ret _)))
      · cases (cx.T t).kind <;> (try dsimp only) <;> try exact Un.no
        cases hi with
        | none => exact Un.and (Un.and (Un.and (Un.ret _)))
        | some r =>
          dsimp only
          cases opnd σ r <;> (try dsimp only) <;> try exact Un.no
          rename_i v
          cases v <;> (try dsimp only) <;> try exact Un.no
          exact Un.and (Un.and (Un.and (Un.ret _)))
  case fieldAddr s x f =>
    cases (cx.T s).kind <;> (try dsimp only) <;> try exact Un.no
    rename_i offs _
    cases offs[f]? <;> (try dsimp only) <;> try exact Un.no
    cases opnd σ x <;> (try dsimp only) <;> try exact Un.no
    · rename_i v
      cases v <;> (try dsimp only) <;> try exact Un.no
      rename_i p
      cases p <;> (try dsimp only) <;> first
        | exact Un.no
        | exact Un.ret _
    · exact Un.ret _
  case field t x f =>
    cases (cx.T t).kind <;> cases opnd σ x <;> (try dsimp only) <;> try exact Un.no
    rename_i offs ts v
    cases v <;> (try dsimp only) <;> try exact Un.no
    rename_i cs
    cases structPlace offs ts f <;> (try dsimp only) <;> try exact Un.no
    rename_i p
    obtain ⟨off, u⟩ := p
    dsimp only
    cases Nat.ble (off + (cx.T u).size) cs.toList.length <;> (try dsimp only) <;> try exact Un.no
    cases (cx.T u).kind.agg <;> (try dsimp only) <;> exact Un.ret _
  case indexAddr t x i =>
    cases opnd σ i <;> (try dsimp only) <;> try exact Un.no
    rename_i v
    cases v <;> (try dsimp only) <;> try exact Un.no
    cases opnd σ x <;> (try dsimp only) <;> try exact Un.no
    rename_i v
    cases v <;> (try dsimp only) <;> try exact Un.no
    · rename_i p
      cases p <;> (try dsimp only) <;> try exact Un.no
      cases (cx.T t).kind <;> (try dsimp only) <;> try exact Un.no
      exact Un.and (Un.and (Un.ret _))
    · cases (cx.T t).kind <;> (try dsimp only) <;> try exact Un.no
      exact Un.and (Un.and (Un.pm (F := fun a K loc _ => K (.val (.pointer (some (a.add _)))) loc) fun _ => Un.ret _))
  case index t x i =>
    cases opnd σ i <;> (try dsimp only) <;> try exact Un.no
    rename_i v
    cases v <;> (try dsimp only) <;> try exact Un.no
    cases opnd σ x <;> (try dsimp only) <;> try exact Un.no
    rename_i v
    cases v <;> (try dsimp only) <;> try exact Un.no
    · cases (cx.T t).kind <;> (try dsimp only) <;> try exact Un.no
      exact Un.and (Un.and (Un.ret _))
    · rename_i cs
      cases (cx.T t).kind <;> (try dsimp only) <;> try exact Un.no
      rename_i n e
      cases (cx.T e).kind.agg <;> (try dsimp only) <;> try exact Un.no
      generalize (cx.T e).size = z
      match z with
      | 0 => exact Un.no
      | 1 => exact Un.and (Un.and Un.idxv)
      | n + 2 => exact Un.no
  case extract x i =>
    cases opnd σ x <;> (try dsimp only) <;> try exact Un.no
    rename_i v
    cases v <;> (try dsimp only) <;> try exact Un.no
    rename_i vs
    cases vs.toList[i]? <;> (try dsimp only) <;> first
      | exact Un.no
      | exact Un.ret _
  case lookup t m k ok =>
    cases (cx.T t).kind <;> (try dsimp only) <;> try exact Un.no
    rename_i kt e
    cases opnd σ m <;> (try dsimp only) <;> try exact Un.no
    rename_i v
    cases v <;> (try dsimp only) <;> try exact Un.no
    rename_i r
    cases opnd σ k <;> (try dsimp only) <;> try exact Un.no
    rename_i key
    cases keyOk (cx.T kt).kind key <;> (try dsimp only) <;> try exact Un.no
    exact Un.lookv
  case call c =>
    split <;> try exact Un.no
    · cases argKd cx.T c.argTypes.toList <;> (try dsimp only) <;> first
        | exact Un.no
        | exact Un.ret _
    · cases argKd cx.T c.argTypes.toList <;> (try dsimp only) <;> first
        | exact Un.no
        | exact Un.ret _
    · cases argKd cx.T c.argTypes.toList <;> (try dsimp only) <;> first
        | exact Un.no
        | exact Un.mlen
    · cases argKd cx.T c.argTypes.toList <;> (try dsimp only) <;> first
        | exact Un.no
        | exact Un.ret _
    · rename_i k x r _ _
      cases foldInt imax k x r <;> (try dsimp only) <;> first
        | exact Un.no
        | exact Un.ret _
    · rename_i k x r _ _
      cases foldInt imin k x r <;> (try dsimp only) <;> first
        | exact Un.no
        | exact Un.ret _

end Go.Proofs.YtkhfofnglkekoaaDoor
