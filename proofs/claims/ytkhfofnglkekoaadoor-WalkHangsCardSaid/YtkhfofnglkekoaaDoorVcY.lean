/- Own verification-condition framework, part Y: two independent steps may be taken in either order. Conditions: none. -/
import Derived.Test.YtkhfofnglkekoaaDoorVcX
namespace Go.Proofs.YtkhfofnglkekoaaDoor

def OwnOk (cx : Cx) (σ : Env) : Prop := ∀ i k o, σ i = .loc k o → cx.own i = some k

theorem upd_at {α : Type} (f : Nat → α) (d : Nat) (x : α) (i : Nat) : upd f d x i = if i = d then x else f i := by
  unfold upd
  by_cases h : i = d
  · subst h; simp
  · have : Nat.beq i d = false := by
      cases hb : Nat.beq i d with
      | false => rfl
      | true => exact absurd (Nat.eq_of_beq_eq_true hb) h
    rw [this, if_neg h]; rfl

theorem upd_comm {α : Type} (f : Nat → α) {a b : Nat} (h : a ≠ b) (x y : α) : upd (upd f a x) b y = upd (upd f b y) a x := by
  funext i
  simp only [upd_at]
  by_cases h1 : i = a
  · subst h1; simp [h]
  · by_cases h2 : i = b
    · subst h2; simp [h1]
    · simp [h1, h2]

theorem put_own {cx : Cx} {σ : Env} (h : OwnOk cx σ) (d : Option Nat) (x : SV) : OwnOk cx (put cx σ d x) := by
  intro i k o hi
  unfold put at hi
  cases d with
  | none => exact h i k o hi
  | some d =>
    dsimp only at hi
    rw [upd_at] at hi
    by_cases hd : i = d
    · subst hd
      rw [if_pos rfl] at hi
      cases x with
      | val v => cases hi
      | any => cases hi
      | loc k' o' =>
        dsimp only at hi
        cases ho : cx.own i with
        | none => rw [ho] at hi; cases hi
        | some l =>
          rw [ho] at hi
          dsimp only at hi
          cases hb : Nat.beq k' l <;> rw [hb] at hi
          · cases hi
          · cases hi; rw [Nat.eq_of_beq_eq_true hb]
    · rw [if_neg hd] at hi; exact h i k o hi

theorem put_comm (cx : Cx) (σ : Env) {a b : Option Nat} (h : ∀ d, a = some d → b ≠ some d) (x y : SV) : put cx (put cx σ a x) b y = put cx (put cx σ b y) a x := by
  cases a with
  | none => rfl
  | some a => cases b with
    | none => rfl
    | some b => exact upd_comm _ (fun e => h a rfl (by rw [e])) _ _

theorem put_ne (cx : Cx) (σ : Env) {a : Option Nat} {i : Nat} (h : a ≠ some i) (x : SV) : put cx σ a x i = σ i := by
  cases a with
  | none => rfl
  | some a =>
    unfold put
    dsimp only
    rw [upd_at, if_neg fun e => h (by rw [e])]

theorem opnd_put {cx : Cx} {σ : Env} {a : Option Nat} {x : SV} {y : Operand} (h : ∀ d, a = some d → y ≠ .tmp d) : opnd (put cx σ a x) y = opnd σ y := by
  cases y with
  | tmp t => exact put_ne cx σ (fun e => h t e rfl) x
  | _ => rfl

theorem not_op {ops : Array Oper} {o : Oper} {d : Nat} (h : d ∉ o.looksAt ops) {y : Operand} (hy : y ∈ o.op.operands) : y ≠ .tmp d := by
  rintro rfl
  exact h (List.mem_append_left _ (List.mem_filterMap.2 ⟨.tmp d, by simpa using hy, rfl⟩))

theorem setL_comm {a b : Option (Nat × Bool)} (h : ∀ k l x y, a = some (k, x) → b = some (l, y) → k = l → x = false ∧ y = false) (u v : Option (List Value × TypeId)) (loc : Loc) :
    setL b v (setL a u loc) = setL a u (setL b v loc) := by
  unfold setL
  cases a with
  | none => rfl
  | some p =>
    obtain ⟨k, x⟩ := p
    cases b with
    | none => rfl
    | some q =>
      obtain ⟨l, y⟩ := q
      cases x <;> cases y <;> try rfl
      exact upd_comm _ (fun e => by have := h k l true true rfl rfl e; simp at this) _ _

theorem setL_keep {a b : Option (Nat × Bool)} (h : ∀ k l x y, a = some (k, x) → b = some (l, y) → k = l → x = false ∧ y = false) (u : Option (List Value × TypeId)) (loc : Loc) :
    ∀ k x, b = some (k, x) → setL a u loc k = loc k := by
  intro k x hb
  unfold setL
  cases a with
  | none => rfl
  | some p =>
    obtain ⟨l, y⟩ := p
    cases y with
    | false => rfl
    | true =>
      dsimp only
      rw [upd_at, if_neg]
      intro e
      have := h l k true x rfl hb e.symm
      simp at this

theorem locApart_spec {cx : Cx} {x y : Oper} (h : locApart cx x y = true) : ∀ k l a b, locAcc cx x = some (k, a) → locAcc cx y = some (l, b) → k = l → a = false ∧ b = false := by
  intro k l a b h1 h2 e
  subst e
  unfold locApart at h
  rw [h1, h2] at h
  simp at h
  exact h

/-- What decides whether an operation runs. -/
def dec (all : List Oper) (o : Oper) (σ : Env) : Option Bool :=
  match o.guard with
  | none => some true
  | some (j, want) => (match gtmp all j with
    | none => none
    | some d => (match σ d with
      | .val (.bool t) => some (t == want)
      | .val (.tuple _) => some false
      | _ => none))

theorem vcStep_iff {cx : Cx} {m : Option (Hp → Prop)} {all : List Oper} {o : Oper} {k : Env → Loc → Hp → Prop} {σ : Env} {loc : Loc} {h : Hp} :
    vcStep cx m all o k σ loc h ↔ (dec all o σ = some true ∧ vcRun cx m o k σ loc h) ∨ (dec all o σ = some false ∧ k (put cx σ o.dst (.val undef)) loc h) := by
  unfold vcStep dec
  cases hg : o.guard with
  | none => simp
  | some p =>
    obtain ⟨j, want⟩ := p
    dsimp only
    cases hd : gtmp all j with
    | none => simp
    | some d =>
      dsimp only
      constructor
      · rintro ⟨d', hd', H⟩
        cases hd'
        rcases H with ⟨t, ht, H⟩ | ⟨vs, hv, H⟩
        · rw [ht]
          dsimp only
          rcases H with ⟨rfl, H⟩ | ⟨hn, H⟩
          · left; exact ⟨by simp, H⟩
          · right; exact ⟨by simpa using hn, H⟩
        · rw [hv]; right; exact ⟨rfl, H⟩
      · intro H
        refine ⟨d, rfl, ?_⟩
        cases hs : σ d with
        | val v =>
          rw [hs] at H
          cases v with
          | bool t =>
            dsimp only at H
            refine .inl ⟨t, rfl, ?_⟩
            rcases H with ⟨h1, H⟩ | ⟨h1, H⟩
            · exact .inl ⟨by simpa using h1, H⟩
            · exact .inr ⟨by simpa using h1, H⟩
          | tuple vs =>
            dsimp only at H
            rcases H with ⟨h1, H⟩ | ⟨h1, H⟩
            · cases h1
            · exact .inr ⟨vs, rfl, H⟩
          | _ => dsimp only at H; rcases H with ⟨h1, _⟩ | ⟨h1, _⟩ <;> cases h1
        | _ => rw [hs] at H; dsimp only at H; rcases H with ⟨h1, _⟩ | ⟨h1, _⟩ <;> cases h1

theorem dec_put {cx : Cx} {all : List Oper} {o : Oper} {σ : Env} {a : Option Nat} {x : SV} (h : ∀ d, a = some d → d ∉ o.looksAt all.toArray) : dec all o (put cx σ a x) = dec all o σ := by
  unfold dec
  cases hg : o.guard with
  | none => rfl
  | some p =>
    obtain ⟨j, want⟩ := p
    dsimp only
    cases hd : gtmp all j with
    | none => rfl
    | some d =>
      dsimp only
      rw [put_ne]
      rintro rfl
      refine h d rfl (List.mem_append_right _ ?_)
      rw [hg]
      dsimp only
      unfold gtmp at hd
      rw [List.getElem?_toArray]
      cases ho : all[j]? <;> rw [ho] at hd
      · cases hd
      · dsimp only at hd; simp [hd]

/-- An operation runs as it would have run ahead of an assignment that it does not look at. -/
theorem run_put {cx : Cx} {m : Option (Hp → Prop)} {ops : Array Oper} {o : Oper} {a : Option Nat} {x : SV} (h1 : ∀ d, a = some d → d ∉ o.looksAt ops) (h2 : ∀ d, a = some d → o.dst ≠ some d)
    (h3 : isAlloc o = true → ∀ d e, a = some d → o.dst = some e → (cx.ow.any fun p => Nat.beq p.1 d && Nat.beq p.2 e) = false) {k : Env → Loc → Hp → Prop} {σ : Env} {loc : Loc} {h : Hp} :
    vcRun cx m o k (put cx σ a x) loc h = vcRun cx m o (fun σ' loc' h' => k (put cx σ' a x) loc' h') σ loc h := by
  have e : ∀ y ∈ o.op.operands, opnd (put cx σ a x) y = opnd σ y := fun y hy => opnd_put fun d hd => not_op (h1 d hd) hy
  unfold vcRun
  have hp : ∀ sv, put cx (put cx σ a x) o.dst sv = put cx (put cx σ o.dst sv) a x := fun sv => put_comm cx σ h2 x sv
  cases effB cx o
  · dsimp only
    rw [vcQ_congr e]
    · simp only [hp]
    · intro ha d hd
      cases a with
      | none => rfl
      | some b =>
        have h4 := h3 ha b d rfl hd
        rw [List.any_eq_false] at h4
        rw [Bool.eq_iff_iff, List.all_eq_true, List.all_eq_true]
        refine forall_congr' fun p => forall_congr' fun hm => ?_
        have h5 := h4 p hm
        by_cases hb : p.1 = b
        · have : Nat.beq p.2 d = false := by
            cases hx : Nat.beq p.2 d with
            | false => rfl
            | true => exact absurd (by rw [hb, hx]; simp) h5
          simp [this]
        · rw [put_ne cx σ (fun e => hb (Option.some.inj e).symm)]
  · dsimp only
    rw [vcE_congr e]
    simp only [hp]

theorem rdS {S : Hp → Prop} {h : Hp} (hs : S h) : ∀ φ : Hp → Prop, rdM (some S) h φ → φ h := fun _ H => H h hs

theorem indep_spec {cx : Cx} {all : List Oper} {x y : Oper} (h : indep cx all x y = true) :
    ¬(effB cx x = true ∧ effB cx y = true) ∧ x.apart all.toArray y = true ∧ locApart cx x y = true ∧ allocApart cx x y = true := by
  unfold indep at h
  simp only [Bool.and_eq_true, Bool.not_eq_true', Bool.and_eq_false_iff] at h
  obtain ⟨⟨⟨h1, h2⟩, h3⟩, h4⟩ := h
  refine ⟨?_, h2, h3, h4⟩
  rintro ⟨a, b⟩
  rcases h1 with h1 | h1 <;> simp_all

/-- Two runs. -/
theorem run_swap {cx : Cx} {S : Hp → Prop} {all : List Oper} {x y : Oper} (cok : CxOk cx) (hi : indep cx all x y = true) {P : SV → SV → Env} {k : Env → Loc → Hp → Prop} {σ : Env} {loc : Loc} {h : Hp}
    (own : OwnOk cx σ) (hr : Real h) : (match effB cx x, effB cx y with
      | false, false => vcQ cx x (fun a l => vcQ cx y (fun b l' => k (P a b) l' h) σ l (rdM (some S) h)) σ loc (rdM (some S) h) →
          vcQ cx y (fun b l => vcQ cx x (fun a l' => k (P a b) l' h) σ l (rdM (some S) h)) σ loc (rdM (some S) h)
      | false, true => vcQ cx x (fun a l => vcE cx y (fun b h' => S h' ∧ k (P a (.val b)) l h') σ h) σ loc (rdM (some S) h) →
          vcE cx y (fun b h' => S h' ∧ vcQ cx x (fun a l' => k (P a (.val b)) l' h') σ loc (rdM (some S) h')) σ h
      | true, false => vcE cx x (fun a h' => S h' ∧ vcQ cx y (fun b l' => k (P (.val a) b) l' h') σ loc (rdM (some S) h')) σ h →
          vcQ cx y (fun b l => vcE cx x (fun a h' => S h' ∧ k (P (.val a) b) l h') σ h) σ loc (rdM (some S) h)
      | true, true => True) := by
  obtain ⟨hne, _, hl, _⟩ := indep_spec hi
  have hl := locApart_spec hl
  cases hx : effB cx x <;> cases hy : effB cx y <;> dsimp only
  · intro H
    obtain ⟨a, u, H1, rx⟩ := vcQ_wit own hx _ _ _ H
    obtain ⟨b, v, H2, ry⟩ := vcQ_wit own hy _ _ _ H1
    refine ry _ _ _ (fun _ h => h) (fun l z hlz => (setL_keep hl u loc l z hlz).symm) ?_
    refine rx _ _ _ (fun _ h => h) (fun l z hlz => setL_keep (fun k l a b p q e => (hl l k b a q p e.symm).symm) v loc l z hlz) ?_
    rw [← setL_comm hl u v loc]
    exact H2
  · intro H
    obtain ⟨a, u, H1, rx⟩ := vcQ_wit own hx _ _ _ H
    exact vcE_mono (fun b h' ⟨hs', hk⟩ => ⟨hs', rx _ _ _ (fun _ h => h) (fun _ _ _ => rfl) hk⟩) H1
  · intro H
    obtain ⟨a, h', hs', H1⟩ := vcE_some cok hr H
    obtain ⟨b, v, _, ry⟩ := vcQ_wit own hy _ _ _ H1
    refine ry _ _ _ (fun _ h => h) (fun _ _ _ => rfl) ?_
    refine vcE_mono (fun a2 h2 ⟨hs2, H2⟩ => ⟨hs2, ?_⟩) H
    have H3 : vcQ cx y (fun b' l' => b' = b ∧ l' = setL (locAcc cx y) v loc) σ loc (rdM (some S) h2) := ry _ _ _ (fun _ h => h) (fun _ _ _ => rfl) ⟨rfl, rfl⟩
    obtain ⟨b', l', h4, rfl, rfl⟩ := vcQ_uni _ _ _ _ h2 (rdS hs2) H2 H3
    exact h4

theorem run_congr {cx : Cx} {m : Option (Hp → Prop)} {o : Oper} {K K' : Env → Loc → Hp → Prop} {σ : Env} {loc : Loc} {h : Hp} (e : ∀ sv l h', K (put cx σ o.dst sv) l h' = K' (put cx σ o.dst sv) l h') :
    vcRun cx m o K σ loc h = vcRun cx m o K' σ loc h := by
  unfold vcRun
  simp only [e]

theorem step_false {cx : Cx} {m : Option (Hp → Prop)} {all : List Oper} {o : Oper} {σ : Env} (hd : dec all o σ = some false) (k : Env → Loc → Hp → Prop) (loc : Loc) (h : Hp) :
    vcStep cx m all o k σ loc h = k (put cx σ o.dst (.val undef)) loc h := by rw [propext vcStep_iff, hd]; simp
theorem step_true {cx : Cx} {m : Option (Hp → Prop)} {all : List Oper} {o : Oper} {σ : Env} (hd : dec all o σ = some true) (k : Env → Loc → Hp → Prop) (loc : Loc) (h : Hp) :
    vcStep cx m all o k σ loc h = vcRun cx m o k σ loc h := by rw [propext vcStep_iff, hd]; simp
theorem step_none {cx : Cx} {m : Option (Hp → Prop)} {all : List Oper} {o : Oper} {σ : Env} (hd : dec all o σ = none) (k : Env → Loc → Hp → Prop) (loc : Loc) (h : Hp) :
    vcStep cx m all o k σ loc h = False := by rw [propext vcStep_iff, hd]; simp

theorem step_congr {cx : Cx} {m : Option (Hp → Prop)} {all : List Oper} {o : Oper} {K K' : Env → Loc → Hp → Prop} {σ : Env} {loc : Loc} {h : Hp} (e : ∀ sv l h', K (put cx σ o.dst sv) l h' = K' (put cx σ o.dst sv) l h') :
    vcStep cx m all o K σ loc h = vcStep cx m all o K' σ loc h := by
  rw [propext vcStep_iff, propext vcStep_iff, run_congr e, e]

theorem run_some {cx : Cx} {S : Hp → Prop} {o : Oper} (cok : CxOk cx) {K : Env → Loc → Hp → Prop} {σ : Env} {loc : Loc} {h : Hp} (own : OwnOk cx σ) (hr : Real h) (H : vcRun cx (some S) o K σ loc h) :
    ∃ sv l h', K (put cx σ o.dst sv) l h' := by
  unfold vcRun at H
  cases hx : effB cx o <;> rw [hx] at H <;> dsimp only at H
  · obtain ⟨a, u, H1, _⟩ := vcQ_wit own hx _ _ _ H
    exact ⟨_, _, _, H1⟩
  · obtain ⟨a, h', _, H1⟩ := vcE_some cok hr H
    exact ⟨_, _, _, H1⟩

/-- TWO INDEPENDENT STEPS MAY BE TAKEN IN EITHER ORDER. -/
theorem step_swap {cx : Cx} {S : Hp → Prop} {all : List Oper} {x y : Oper} (cok : CxOk cx) (hi : indep cx all x y = true) {k : Env → Loc → Hp → Prop} {σ : Env} {loc : Loc} {h : Hp}
    (own : OwnOk cx σ) (hr : Real h) (H : vcStep cx (some S) all x (vcStep cx (some S) all y k) σ loc h) : vcStep cx (some S) all y (vcStep cx (some S) all x k) σ loc h := by
  obtain ⟨hne, hap, hl, hal⟩ := indep_spec hi
  obtain ⟨p1, p2, p3⟩ := Oper.apart_spec hap
  have p2' : ∀ d, y.dst = some d → x.dst ≠ some d := fun d hd e => p2 d e hd
  have ax : isAlloc x = true → ∀ d e, y.dst = some d → x.dst = some e → (cx.ow.any fun p => Nat.beq p.1 d && Nat.beq p.2 e) = false := by
    intro h1 d e hd he
    have := hal
    simp only [allocApart, ownDst, h1, hd, he, Bool.not_true, Bool.false_or, Bool.and_eq_true, Bool.not_eq_true'] at this
    exact this.1
  have ay : isAlloc y = true → ∀ d e, x.dst = some d → y.dst = some e → (cx.ow.any fun p => Nat.beq p.1 d && Nat.beq p.2 e) = false := by
    intro h1 d e hd he
    have := hal
    simp only [allocApart, ownDst, h1, hd, he, Bool.not_true, Bool.false_or, Bool.and_eq_true, Bool.not_eq_true'] at this
    exact this.2
  have dy : ∀ sv, dec all y (put cx σ x.dst sv) = dec all y σ := fun sv => dec_put p1
  have dx : ∀ sv, dec all x (put cx σ y.dst sv) = dec all x σ := fun sv => dec_put p3
  -- the steps behind an assignment
  have sy : ∀ sv l h', vcStep cx (some S) all y k (put cx σ x.dst sv) l h' = vcStep cx (some S) all y (fun σ' l h' => k (put cx σ' x.dst sv) l h') σ l h' := by
    intro sv l h'
    rw [propext vcStep_iff, propext vcStep_iff, dy, run_put p1 p2 ay, put_comm cx σ p2]
  have sx : ∀ sv l h', vcStep cx (some S) all x k (put cx σ y.dst sv) l h' = vcStep cx (some S) all x (fun σ' l h' => k (put cx σ' y.dst sv) l h') σ l h' := by
    intro sv l h'
    rw [propext vcStep_iff, propext vcStep_iff, dx, run_put p3 p2' ax, put_comm cx σ p2']
  cases ex : dec all x σ with
  | none => rw [step_none ex] at H; exact H.elim
  | some b =>
    cases b with
    | false =>
      rw [step_false ex, sy] at H
      have : ∀ sv l h', vcStep cx (some S) all x k (put cx σ y.dst sv) l h' = (fun σ' l h' => k (put cx σ' x.dst (.val undef)) l h') (put cx σ y.dst sv) l h' := fun sv l h' => by
        rw [step_false (by rw [dx, ex])]
      rw [step_congr (K' := fun σ' l h' => k (put cx σ' x.dst (.val undef)) l h') this]
      exact H
    | true =>
      rw [step_true ex] at H
      cases ey : dec all y σ with
      | none =>
        obtain ⟨sv, l, h', H1⟩ := run_some cok own hr H
        rw [sy, step_none ey] at H1
        exact H1.elim
      | some b =>
        cases b with
        | false =>
          rw [step_false ey, sx, step_true ex]
          have : ∀ sv l h', vcStep cx (some S) all y k (put cx σ x.dst sv) l h' = (fun σ' l h' => k (put cx σ' y.dst (.val undef)) l h') (put cx σ x.dst sv) l h' := fun sv l h' => by
            rw [step_false (by rw [dy, ey])]
          rw [run_congr (K' := fun σ' l h' => k (put cx σ' y.dst (.val undef)) l h') this] at H
          exact H
        | true =>
          rw [step_true ey]
          have hsw := run_swap (all := all) cok hi (P := fun a b => put cx (put cx σ y.dst b) x.dst a) (k := k) (S := S) (loc := loc) own hr
          unfold vcRun at H ⊢
          simp only [sy, sx, step_true ex, step_true ey] at H ⊢
          unfold vcRun at H ⊢
          cases hx : effB cx x <;> cases hy : effB cx y <;> rw [hx, hy] at hsw <;> rw [hx, hy] at H <;> (try rw [hx]) <;> (try rw [hy]) <;> dsimp only [aft] at hsw H ⊢
          · simp only [put_comm cx σ p2'] at hsw H ⊢; exact hsw H
          · simp only [put_comm cx σ p2'] at hsw H ⊢; exact hsw H
          · simp only [put_comm cx σ p2'] at hsw H ⊢; exact hsw H
          · exact absurd ⟨hx, hy⟩ hne

end Go.Proofs.YtkhfofnglkekoaaDoor
