/- Own verification-condition framework, part I: the state of a call; operations on its locals. Conditions: none. -/
import Derived.Test.YtkhfofnglkekoaaDoorVcH
namespace Go.Proofs.YtkhfofnglkekoaaDoor

/-- The symbolic state and the true one. -/
structure St (cx : Cx) (w0 : World) (h0 : Hp) (n : Nat) (σ : Env) (loc : Loc) (h : Hp) (adr : Nat → Nat) (a : Act) (w : World) : Prop where
  nod : a.defers = []
  size : a.tmps.size = n
  tm : ∀ i, tmOk adr (σ i) (a.tmps.getD i undef)
  own : ∀ i k o, σ i = .loc k o → cx.own i = some k
  fr : Fr h0 w0 h w
  lc : ∀ k c t, loc k = some (c, t) → w.heap[adr k]? = some (.cells c.toArray t (0, 0)) ∧ h (adr k) = none ∧ w0.heap.size ≤ adr k
  inj : ∀ k l, loc k ≠ none → loc l ≠ none → adr k = adr l → k = l

section
variable {cx : Cx} {w0 : World} {h0 : Hp} {n : Nat} {σ : Env} {loc : Loc} {h : Hp} {adr : Nat → Nat} {a : Act} {w : World}

theorem St.hc (st : St cx w0 h0 n σ loc h adr a w) : ∀ x, tmOk adr (opnd σ x) (a.eval x) := by
  intro x
  cases x with
  | tmp t => exact st.tm t
  | const v => exact rfl
  | global g => exact rfl
  | func f => exact rfl

theorem St.step (st : St cx w0 h0 n σ loc h adr a w) {h' : Hp} {w' : World} (f : Fr h w h' w') : St cx w0 h0 n σ loc h' adr a w' := by
  refine ⟨st.nod, st.size, st.tm, st.own, st.fr.trans f, fun k c t hk => ?_, st.inj⟩
  obtain ⟨h1, h2, h3⟩ := st.lc k c t hk
  have hlt := (Array.getElem?_eq_some_iff.1 h1).1
  obtain ⟨e, hn⟩ := f.keep _ hlt h2
  exact ⟨e.trans h1, hn, h3⟩

theorem St.drew (st : St cx w0 h0 n σ loc h adr a w) (m : Nat) : St cx w0 h0 n σ loc h adr a { w with drawn := m } :=
  st.step ((Fr.refl st.fr.sub).drew m)

theorem St.put (st : St cx w0 h0 n σ loc h adr a w) {d : Option Nat} (hd : ∀ k, d = some k → k < n) {x : SV} {v : Value} (hx : tmOk adr x v) : St cx w0 h0 n (put cx σ d x) loc h adr (a.put d v) w := by
  cases d with
  | none => exact st
  | some d =>
    have hdn := hd d rfl
    refine ⟨st.nod, by simp [Act.put, st.size], fun i => ?_, fun i k o hi => ?_, st.fr, st.lc, st.inj⟩
    · simp only [Act.put, Go.Proofs.YtkhfofnglkekoaaDoor.put, upd]
      by_cases e : i = d
      · subst e
        have h1 : (a.tmps.setIfInBounds i v).getD i undef = v := by
          simp [st.size, hdn]
        rw [h1, Nat.beq_refl]
        cases x with
        | val u => exact hx
        | any => trivial
        | loc k o =>
          simp only [cond_true]
          cases cx.own i with
          | none => trivial
          | some k' =>
            dsimp only
            cases hb : Nat.beq k k' with
            | true => exact hx
            | false => trivial
      · have h1 : (a.tmps.setIfInBounds d v).getD i undef = a.tmps.getD i undef := by
          simp [Array.getElem?_setIfInBounds_ne (Ne.symm e)]
        have h2 : Nat.beq i d = false := by
          cases hb : Nat.beq i d with
          | false => rfl
          | true => exact absurd (Nat.eq_of_beq_eq_true hb) e
        rw [h1, h2]
        exact st.tm i
    · simp only [Go.Proofs.YtkhfofnglkekoaaDoor.put, upd] at hi
      cases hb : Nat.beq i d with
      | false => rw [hb] at hi; exact st.own i k o hi
      | true =>
        rw [hb] at hi
        have e := Nat.eq_of_beq_eq_true hb
        subst e
        simp only [cond_true] at hi
        cases x with
        | val u => cases hi
        | any => cases hi
        | loc k2 o2 =>
          simp only at hi
          cases ho : cx.own i with
          | none => rw [ho] at hi; cases hi
          | some k' =>
            rw [ho] at hi
            simp only at hi
            cases hb2 : Nat.beq k2 k' with
            | false => rw [hb2] at hi; cases hi
            | true =>
              rw [hb2] at hi
              have := Nat.eq_of_beq_eq_true hb2
              subst this
              cases hi
              rfl

/-- What an operation did, in the model. -/
def Ran (P : Program) (o : Oper) (a : Act) (w : World) (v : Value) (w' : World) : Prop :=
  (execOp a.eval o).run P w = .ok (.value v) w' ∨ ((execOp a.eval o).run P w = .ok .skip w' ∧ v = undef)

theorem lookN_mem : ∀ (l : List (Nat × Nat)) (i k : Nat), lookN l i = some k → (i, k) ∈ l
  | [], _, _, h => by cases h
  | (a, b) :: r, i, k, h => by
    unfold lookN at h
    cases hb : Nat.beq a i with
    | true => rw [hb] at h; cases h; rw [Nat.eq_of_beq_eq_true hb]; simp
    | false => rw [hb] at h; exact List.mem_cons_of_mem _ (lookN_mem r i k h)

/-- No temporary holds the local's address. -/
theorem St.free (st : St cx w0 h0 n σ loc h adr a w) {d : Nat} (hf : (cx.ow.all fun p => !Nat.beq p.2 d || notLoc (σ p.1)) = true) (i o : Nat) : σ i ≠ .loc d o := by
  intro hi
  have hm := lookN_mem _ _ _ (st.own i d o hi)
  have := List.all_eq_true.1 hf _ hm
  simp [hi, notLoc] at this

/-- A new local. -/
theorem St.local (st : St cx w0 h0 n σ loc h adr a w) {d : Nat} (hf : (cx.ow.all fun p => !Nat.beq p.2 d || notLoc (σ p.1)) = true) {c : List Value} {t : TypeId} {b : Nat} {w' : World} (hb : h b = none)
    (f : Fr h w (h.set b (.cells c.toArray t (0, 0))) w') : St cx w0 h0 n σ (upd loc d (some (c, t))) h (fun k => if k = d then b else adr k) a w' := by
  have hge : w.heap.size ≤ b := by
    rcases Nat.lt_or_ge b w.heap.size with hlt | hge
    · have := (f.keep b hlt hb).2
      rw [Hp.set_same] at this
      cases this
    · exact hge
  have hsub : Sub h w' := by
    intro i o hi
    have hne : i ≠ b := by rintro rfl; rw [hb] at hi; cases hi
    exact f.sub i o (by rw [Hp.set_ne _ _ hne]; exact hi)
  have f2 : Fr h w h w' := ⟨f.os, f.tape, f.output, f.size, fun i hi hn => ⟨(f.keep i hi hn).1, hn⟩, hsub⟩
  refine ⟨st.nod, st.size, fun i => ?_, st.own, st.fr.trans f2, fun k c' t' hk => ?_, fun k l hk hl e => ?_⟩
  · have := st.tm i
    cases hs : σ i with
    | val v => rw [hs] at this; exact this
    | any => trivial
    | loc k o =>
      rw [hs] at this
      have hne : k ≠ d := by rintro rfl; exact st.free hf i o hs
      simp only [tmOk, if_neg hne] at this ⊢
      exact this
  · unfold upd at hk
    cases hkd : Nat.beq k d with
    | true =>
      rw [hkd] at hk
      cases hk
      have e := Nat.eq_of_beq_eq_true hkd
      subst e
      simp only [if_true]
      exact ⟨f.sub b _ (Hp.set_same _ _ _), hb, Nat.le_trans st.fr.size hge⟩
    | false =>
      rw [hkd] at hk
      have hne : k ≠ d := by rintro rfl; rw [Nat.beq_refl] at hkd; cases hkd
      simp only [if_neg hne]
      obtain ⟨h1, h2, h3⟩ := st.lc k c' t' hk
      have hlt := (Array.getElem?_eq_some_iff.1 h1).1
      exact ⟨(f2.keep _ hlt h2).1.trans h1, h2, h3⟩
  · have old : ∀ k, k ≠ d → upd loc d (some (c, t)) k ≠ none → adr k < w.heap.size ∧ loc k ≠ none := by
      intro k hne hk
      have : upd loc d (some (c, t)) k = loc k := by
        unfold upd
        have : Nat.beq k d = false := by
          cases hb : Nat.beq k d with
          | false => rfl
          | true => exact absurd (Nat.eq_of_beq_eq_true hb) hne
        rw [this]; rfl
      rw [this] at hk
      cases hl : loc k with
      | none => exact absurd hl hk
      | some p =>
        obtain ⟨c', t'⟩ := p
        exact ⟨(Array.getElem?_eq_some_iff.1 (st.lc k c' t' hl).1).1, by simp⟩
    by_cases h1 : k = d
    · by_cases h2 : l = d
      · rw [h1, h2]
      · rw [if_pos h1, if_neg h2] at e
        have := (old l h2 hl).1
        omega
    · by_cases h2 : l = d
      · rw [if_neg h1, if_pos h2] at e
        have := (old k h1 hk).1
        omega
      · rw [if_neg h1, if_neg h2] at e
        exact st.inj k l (old k h1 hk).2 (old l h2 hl).2 e

/-- The part together with one local's block. -/
theorem St.with (st : St cx w0 h0 n σ loc h adr a w) {k : Nat} {c : List Value} {t : TypeId} (hk : loc k = some (c, t)) : Sub (h.set (adr k) (.cells c.toArray t (0, 0))) w := by
  intro i o hi
  by_cases e : i = adr k
  · subst e; rw [Hp.set_same] at hi; cases hi; exact (st.lc k c t hk).1
  · rw [Hp.set_ne _ _ e] at hi; exact st.fr.sub i o hi

/-- A local's cells turned. -/
theorem St.turned (st : St cx w0 h0 n σ loc h adr a w) {k : Nat} {c c' : List Value} {t : TypeId} (hk : loc k = some (c, t)) {h' : Hp} {w' : World} (f : Fr (h.set (adr k) (.cells c.toArray t (0, 0))) w h' w')
    (e1 : ∀ b, b ≠ adr k → h' b = h b) (e2 : h' (adr k) = some (.cells c'.toArray t (0, 0))) : St cx w0 h0 n σ (upd loc k (some (c', t))) h adr a w' := by
  obtain ⟨hA, hN, hG⟩ := st.lc k c t hk
  have hsub : Sub h w' := by
    intro i o hi
    have hne : i ≠ adr k := by rintro rfl; rw [hN] at hi; cases hi
    exact f.sub i o (by rw [e1 i hne]; exact hi)
  have hkeep : ∀ b, b < w.heap.size → h b = none → b ≠ adr k → w'.heap[b]? = w.heap[b]? := by
    intro b hb hn hne
    exact (f.keep b hb (by rw [Hp.set_ne _ _ hne]; exact hn)).1
  have hfr : Fr h0 w0 h w' := by
    refine ⟨f.os.trans st.fr.os, f.tape.trans st.fr.tape, f.output.trans st.fr.output, Nat.le_trans st.fr.size f.size, fun b hb hn => ?_, hsub⟩
    obtain ⟨g1, g2⟩ := st.fr.keep b hb hn
    have hne : b ≠ adr k := by omega
    exact ⟨(hkeep b (Nat.lt_of_lt_of_le hb st.fr.size) g2 hne).trans g1, g2⟩
  refine ⟨st.nod, st.size, st.tm, st.own, hfr, fun l c2 t2 hl => ?_, fun l m hl hm e => ?_⟩
  · unfold upd at hl
    cases hb : Nat.beq l k with
    | true =>
      rw [hb] at hl
      have := Nat.eq_of_beq_eq_true hb
      subst this
      cases hl
      exact ⟨f.sub _ _ e2, hN, hG⟩
    | false =>
      rw [hb] at hl
      simp only [cond_false] at hl
      obtain ⟨g1, g2, g3⟩ := st.lc l c2 t2 hl
      have hne : adr l ≠ adr k := by
        intro e
        have := st.inj l k (by rw [hl]; simp) (by rw [hk]; simp) e
        subst this
        rw [Nat.beq_refl] at hb
        cases hb
      exact ⟨(hkeep _ (Array.getElem?_eq_some_iff.1 g1).1 g2 hne).trans g1, g2, g3⟩
  · have old : ∀ l, upd loc k (some (c', t)) l ≠ none → loc l ≠ none := by
      intro l hl
      unfold upd at hl
      cases hb : Nat.beq l k with
      | true =>
        have := Nat.eq_of_beq_eq_true hb
        subst this
        rw [hk]; simp
      | false => simpa only [hb, cond_false] using hl
    exact st.inj l m (old l hl) (old m hm) e

/-- What stays, in memory: locals' addresses, and blocks that are neither in the part nor such a local's. -/
structure KpM (W S : Nat → Bool) (loc : Loc) (adr : Nat → Nat) (h : Hp) (w : World) (loc' : Loc) (adr' : Nat → Nat) (h' : Hp) (w' : World) : Prop where
  ad : ∀ k, W k = false → adr' k = adr k
  adn : ∀ k, loc' k ≠ none → (adr' k = adr k ∧ loc k ≠ none) ∨ w.heap.size ≤ adr' k
  sz : w.heap.size ≤ w'.heap.size
  hp : ∀ b, b < w.heap.size → h b = none → (∀ k, S k = true → loc k ≠ none → b ≠ adr k) → w'.heap[b]? = w.heap[b]? ∧ h' b = none

theorem KpM.fr {W S : Nat → Bool} {loc : Loc} {adr : Nat → Nat} {h h' : Hp} {w w' : World} (f : Fr h w h' w') : KpM W S loc adr h w loc adr h' w' :=
  ⟨fun _ _ => rfl, fun _ hk => .inl ⟨rfl, hk⟩, f.size, fun b hb hn _ => f.keep b hb hn⟩

theorem KpM.trans {W S : Nat → Bool} {loc loc1 loc2 : Loc} {adr adr1 adr2 : Nat → Nat} {h h1 h2 : Hp} {w w1 w2 : World} (x : KpM W S loc adr h w loc1 adr1 h1 w1) (y : KpM W S loc1 adr1 h1 w1 loc2 adr2 h2 w2) :
    KpM W S loc adr h w loc2 adr2 h2 w2 := by
  refine ⟨fun k hk => (y.ad k hk).trans (x.ad k hk), fun k hk => ?_, Nat.le_trans x.sz y.sz, fun b hb hn hk => ?_⟩
  · rcases y.adn k hk with ⟨e, e'⟩ | e
    · rw [e]; exact x.adn k e'
    · exact .inr (Nat.le_trans x.sz e)
  · obtain ⟨e1, e2⟩ := x.hp b hb hn hk
    obtain ⟨e3, e4⟩ := y.hp b (Nat.lt_of_lt_of_le hb x.sz) e2 fun k hs hl => by
      rcases x.adn k hl with ⟨e, e'⟩ | e
      · rw [e]; exact hk k hs e'
      · omega
    exact ⟨e3.trans e1, e4⟩

theorem KpM.mono {W W' S S' : Nat → Bool} (hw : ∀ k, W k = true → W' k = true) (hs : ∀ k, S k = true → S' k = true) {loc loc' : Loc} {adr adr' : Nat → Nat} {h h' : Hp} {w w' : World} (x : KpM W S loc adr h w loc' adr' h' w') :
    KpM W' S' loc adr h w loc' adr' h' w' :=
  ⟨fun k hk => x.ad k (by cases e : W k with | false => rfl | true => rw [hw k e] at hk; cases hk), x.adn, x.sz, fun b hb hn hk => x.hp b hb hn fun k hsk => hk k (hs k hsk)⟩

theorem opnd_tmp {σ : Env} {x : Operand} {k o : Nat} (h : opnd σ x = .loc k o) : ∃ t, x = .tmp t ∧ σ t = .loc k o := by
  cases x <;> simp [opnd] at h
  exact ⟨_, rfl, h⟩

theorem upd_ne {α : Type} {f : Nat → α} {d i : Nat} {x : α} (h : i ≠ d) : upd f d x i = f i := by
  unfold upd
  have : Nat.beq i d = false := by
    cases hb : Nat.beq i d with
    | false => rfl
    | true => exact absurd (Nat.eq_of_beq_eq_true hb) h
  rw [this]; rfl

theorem kp_new {W S : Nat → Bool} {loc : Loc} {adr : Nat → Nat} {h : Hp} {w w' : World} {b d : Nat} {o : Obj} {u : Option (List Value × TypeId)} (hb : h b = none) (f : Fr h w (h.set b o) w') (hs : W d = true) :
    KpM W S loc adr h w (upd loc d u) (fun k => if k = d then b else adr k) h w' := by
  have hge : w.heap.size ≤ b := by
    rcases Nat.lt_or_ge b w.heap.size with hlt | hge
    · have := (f.keep b hlt hb).2
      rw [Hp.set_same] at this
      cases this
    · exact hge
  refine ⟨fun k hk => ?_, fun k hl => ?_, f.size, fun i hi hn _ => ⟨(f.keep i hi hn).1, hn⟩⟩
  · have : k ≠ d := by rintro rfl; rw [hs] at hk; cases hk
    simp [this]
  · by_cases hk : k = d
    · simp [hk, hge]
    · rw [upd_ne hk] at hl
      exact .inl ⟨by simp [hk], hl⟩

theorem kp_same {W S : Nat → Bool} {loc : Loc} {adr : Nat → Nat} {h : Hp} {w w' : World} {b : Nat} {o : Obj} (hw : w.heap[b]? = some o) (f : Fr (h.set b o) w (h.set b o) w') : KpM W S loc adr h w loc adr h w' := by
  refine ⟨fun _ _ => rfl, fun _ hk => .inl ⟨rfl, hk⟩, f.size, fun i hi hn _ => ⟨?_, hn⟩⟩
  by_cases e : i = b
  · subst e; rw [hw]; exact f.sub _ _ (Hp.set_same _ _ _)
  · exact (f.keep i hi (by rw [Hp.set_ne _ _ e]; exact hn)).1

theorem kp_turn {W S : Nat → Bool} {loc : Loc} {adr : Nat → Nat} {h h' : Hp} {w w' : World} {k : Nat} {o : Obj} {u : Option (List Value × TypeId)} (f : Fr (h.set (adr k) o) w h' w') (hl : loc k ≠ none) (hs : S k = true) :
    KpM W S loc adr h w (upd loc k u) adr h w' := by
  refine ⟨fun _ _ => rfl, fun i hi => .inl ⟨rfl, ?_⟩, f.size, fun i hi hn hk => ⟨(f.keep i hi (by rw [Hp.set_ne _ _ (hk k hs hl)]; exact hn)).1, hn⟩⟩
  by_cases e : i = k
  · rw [e]; exact hl
  · rw [upd_ne e] at hi; exact hi

/-- QUIET OPERATIONS THAT TOUCH A LOCAL. -/
theorem vcQ_loc (cok : CxOk cx) {K : SV → Loc → Prop} {rd : (Hp → Prop) → Prop} {o : Oper} (hl : locOp σ o = true) (he : effB cx o = false) (st : St cx w0 h0 n σ loc h adr a w) (H : vcQ cx o K σ loc rd) :
    ∃ sv loc' adr' v w', K sv loc' ∧ Ran cx.P o a w v w' ∧ St cx w0 h0 n σ loc' h adr' a w' ∧ tmOk adr' sv v ∧ KpM (fun k => wrO k o) (fun k => stO cx k o) loc adr h w loc' adr' h w' := by
  obtain ⟨dst, op, ty, pos, after, guard⟩ := o
  cases op <;> try (simp [locOp] at hl; done)
  case alloc e =>
    simp only [vcQ] at H
    cases dst with
    | none => exact False.elim H
    | some d =>
      simp only at H
      split at H <;> try exact False.elim H
      rename_i hb
      rw [Bool.and_eq_true] at hb
      have hw : wpH cx.P (execOp a.eval ⟨some d, .alloc e, ty, pos, after, guard⟩) (fun u h' => ∃ b, h b = none ∧ u = .value (.pointer (some ⟨b, 0, none⟩)) ∧ h' = h.set b (.cells (cx.T e).zero.toArray e (0, 0))) h := by
        refine wpH_v ?_
        unfold Instr.alloc
        refine wpH_b (cok.tok.zero hb.2 ?_)
        dsimp only
        refine wpH_b ?_
        unfold newVar newRow
        refine wpH_b ?_
        intro b hbn
        refine wpH_p (wpH_p ⟨b, hbn, rfl, ?_⟩)
        have : (mkV (cx.T e).kind.agg (cx.T e).zero).cells = (cx.T e).zero.toArray := by
          apply Array.ext'
          rw [cok.tok.zcells hb.2]
        rw [this]
      obtain ⟨x, w', h', hr, hf, b, hbn, rfl, rfl⟩ := wpH_sound _ hw st.fr.sub
      refine ⟨_, _, _, _, w', H, .inl hr, st.local hb.1 hbn hf, by simp [tmOk], kp_new hbn hf (by simp [wrO])⟩
  case box e x =>
    simp only [vcQ] at H
    cases dst with
    | none => cases hx : opnd σ x <;> rw [hx] at H <;> exact False.elim H
    | some d =>
      cases hx : opnd σ x <;> rw [hx] at H <;> try exact False.elim H
      rename_i v
      simp only at H
      cases hcs : cellsO (cx.T e).kind.agg v <;> rw [hcs] at H <;> try exact False.elim H
      rename_i cs
      simp only at H
      split at H <;> try exact False.elim H
      rename_i hb
      rw [Bool.and_eq_true] at hb
      have hw : wpH cx.P (execOp a.eval ⟨some d, .box e x, ty, pos, after, guard⟩) (fun u h' => ∃ b, h b = none ∧ u = .value (.pointer (some ⟨b, 0, none⟩)) ∧ h' = h.set b (.cells cs.toArray e (0, 0))) h := by
        refine wpH_v ?_
        unfold Instr.box newVar newRow
        refine wpH_b (wpH_b ?_)
        intro b hbn
        refine wpH_p (wpH_p ⟨b, hbn, rfl, ?_⟩)
        have : (a.eval x).cells = cs.toArray := by
          apply Array.ext'
          rw [q_val st.hc hx, cellsO_ok hcs]
        rw [this]
      obtain ⟨x, w', h', hr, hf, b, hbn, rfl, rfl⟩ := wpH_sound _ hw st.fr.sub
      refine ⟨_, _, _, _, w', H, .inl hr, st.local hb.1 hbn hf, by simp [tmOk], kp_new hbn hf (by simp [wrO])⟩
  case load t x =>
    cases hx : opnd σ x with
    | val v => simp [locOp, hx] at hl
    | any => simp [locOp, hx] at hl
    | loc k o =>
      simp only [vcQ, hx] at H
      cases hk : loc k <;> rw [hk] at H <;> try exact False.elim H
      rename_i p
      obtain ⟨c, e⟩ := p
      simp only at H
      split at H <;> try exact False.elim H
      rename_i hb
      rw [Bool.and_eq_true] at hb
      have hle := Nat.le_of_ble_eq_true hb.1
      have hsub := st.with hk
      have hat : At (h.set (adr k) (.cells c.toArray e (0, 0))) ⟨adr k, o, none⟩ ((c.drop o).take (cx.T t).size) := by
        refine ⟨rfl, c.toArray, e, (0, 0), Hp.set_same _ _ _, fun i hi => ?_⟩
        simp only [List.length_take, List.length_drop] at hi
        simp only [List.getElem?_toArray]
        rw [List.getElem?_take_of_lt (by omega), List.getElem?_drop]
      have hw : wpH cx.P (execOp a.eval ⟨dst, .load t x, ty, pos, after, guard⟩) (fun u h' => u = .value (mkA (cx.T t).kind.agg ((c.drop o).take (cx.T t).size)) ∧ h' = h.set (adr k) (.cells c.toArray e (0, 0))) (h.set (adr k) (.cells c.toArray e (0, 0))) := by
        refine wpH_v ?_
        unfold Instr.loadAt
        rw [q_loc st.hc hx]
        refine wpH_b ?_
        unfold Instr.sureAddr
        refine wpH_p ?_
        refine wpH_loadVar cok.tok hb.2 (by simp; omega) hat ⟨rfl, rfl⟩
      obtain ⟨u, w', h', hr, hf, rfl, rfl⟩ := wpH_sound _ hw hsub
      have hst := st.turned hk hf (fun b hb => Hp.set_ne _ _ hb) (Hp.set_same _ _ _)
      have hup : upd loc k (some (c, e)) = loc := by
        funext i
        unfold upd
        cases hi : Nat.beq i k with
        | true => rw [Nat.eq_of_beq_eq_true hi, hk]; rfl
        | false => rfl
      rw [hup] at hst
      cases hg : (cx.T t).kind.agg with
      | true =>
        simp only [hg] at H
        exact ⟨_, _, _, _, w', H, .inl hr, hst, by simp [tmOk, mkA, hg], kp_same (st.lc k c e hk).1 hf⟩
      | false =>
        simp only [hg] at H
        refine ⟨_, _, _, _, w', H, .inl hr, hst, ?_, kp_same (st.lc k c e hk).1 hf⟩
        have h1 := cok.tok.one t hb.2 hg
        rw [h1] at hle ⊢
        have h2 : o < c.length := by omega
        have h3 : (c.drop o).take 1 = [c[o]] := by rw [List.drop_eq_getElem_cons h2]; rfl
        rw [h3]
        simp [tmOk, mkA, hg, List.getD_eq_getElem?_getD, List.getElem?_eq_getElem h2]
  case store t x v =>
    simp only [vcQ] at H
    cases hx : opnd σ x <;> cases hv : opnd σ v <;> rw [hx, hv] at H <;> try exact False.elim H
    rename_i k o u
    simp only at H
    cases hk : loc k <;> cases hcs : cellsO (cx.T t).kind.agg u <;> rw [hk, hcs] at H <;> try exact False.elim H
    rename_i p cs
    obtain ⟨c, e⟩ := p
    simp only at H
    split at H <;> try exact False.elim H
    rename_i hb
    simp only [Bool.and_eq_true] at hb
    obtain ⟨hb1, hb2, hb3, hb4⟩ := hb
    have hlen := Nat.eq_of_beq_eq_true hb1
    have hle := Nat.le_of_ble_eq_true hb2
    have hsub := st.with hk
    have hw : wpH cx.P (execOp a.eval ⟨dst, .store t x v, ty, pos, after, guard⟩) (fun u h' => u = .skip ∧ (∀ b, b ≠ adr k → h' b = h b) ∧ h' (adr k) = some (.cells (splice c o cs).toArray e (0, 0))) (h.set (adr k) (.cells c.toArray e (0, 0))) := by
      simp only [execOp]
      refine wpH_b ?_
      unfold Instr.storeAt
      rw [q_loc st.hc hx, q_val st.hc hv]
      refine wpH_b ?_
      unfold Instr.sureAddr
      refine wpH_p ?_
      unfold storeVar
      refine wpH_b (cok.tok.size hb4 ?_)
      have hcu := cellsO_ok hcs
      have hsz : u.cells.size = (cx.T t).size := by rw [← hlen, ← hcu]; simp
      rw [if_neg (by simp [hsz]), hcu]
      refine wpH_storeCells (fr := (0, 0)) (e := e) rfl cs 0 c (fun v hv => ?_) (Hp.set_same _ _ _) (by simpa using hle) (fun j _ _ => by simp) (fun h' g1 g2 => ?_)
      · have := List.all_eq_true.1 hb3 v hv
        cases v <;> simp [leafB] at this <;> trivial
      · refine wpH_p ⟨rfl, fun b hb => ?_, ?_⟩
        · rw [g1 b hb, Hp.set_ne _ _ hb]
        · simpa using g2
    obtain ⟨x, w', h', hr, hf, rfl, g1, g2⟩ := wpH_sound _ hw hsub
    refine ⟨_, _, _, _, w', H, .inr ⟨hr, rfl⟩, st.turned hk hf g1 g2, rfl, kp_turn hf (k := k) (by rw [hk]; simp) ?_⟩
    obtain ⟨i, rfl, hi⟩ := opnd_tmp hx
    simp [stO, st.own i k o hi]
end

end Go.Proofs.YtkhfofnglkekoaaDoor
