/- Own verification-condition framework, part Zb: code. Conditions: none. -/
import Derived.Test.YtkhfofnglkekoaaDoorVcZa
namespace Go.Proofs.YtkhfofnglkekoaaDoor

def exOf : Ex → Exit
  | .normal => .normal
  | .ret => .ret
  | .exit id => .exit id

theorem stopOr_elim {an : Ann} {X : Prop} (h : stopOr an X) : X := by
  cases an <;> first
    | exact h
    | exact False.elim h

theorem least_ex (p : Nat → Prop) : ∀ n, p n → ∃ m, p m ∧ ∀ k, p k → m ≤ k := by
  intro n
  induction n using Nat.strongRecOn with
  | _ n ih =>
    intro hn
    by_cases h : ∃ k, k < n ∧ p k
    · obtain ⟨k, hk, hp⟩ := h
      exact ih k hk hp
    · exact ⟨n, hn, fun k hk => Nat.le_of_not_lt fun hlt => h ⟨k, hlt, hk⟩⟩

/-- The least number of which something holds. -/
noncomputable def lst (p : Nat → Prop) : Nat := open Classical in if h : ∃ m, p m ∧ ∀ k, p k → m ≤ k then Classical.choose h else 0

theorem lst_spec {p : Nat → Prop} (h : ∃ n, p n) : p (lst p) := by
  obtain ⟨n, hn⟩ := h
  have hx := least_ex p n hn
  unfold lst
  rw [dif_pos hx]
  exact (Classical.choose_spec hx).1

theorem lst_le {p : Nat → Prop} {n : Nat} (hn : p n) : lst p ≤ n := by
  have hx := least_ex p n hn
  unfold lst
  rw [dif_pos hx]
  exact (Classical.choose_spec hx).2 n hn

section
variable {cx : Cx} {w0 : World} {h0 : Hp} {n : Nat}

theorem seq_sound {x y : Code} {k : Env → Loc → Hp → Prop} {K : Kont} {σ : Env} {loc : Loc} {h : Hp} {adr : Nat → Nat} {a : Act} {w : World} {Q : Exit → Act → World → Prop} {an : Ann}
    (ihx : ∀ (K : Kont) (Q : Exit → Act → World → Prop), vc cx x an K σ loc h →
      (∀ ex σ' loc' h' adr' a' w', St cx w0 h0 n σ' loc' h' adr' a' w' → Kp (fun i => wrC i x) (fun i => stC cx i x) loc adr h a w loc' adr' h' a' w' → K ex σ' loc' h' → Q (exOf ex) a' w') → x.wp cx.P Q a w)
    (H : vc cx x an (Kseq k K) σ loc h)
    (hy : ∀ σ' loc' h' adr' a' w', St cx w0 h0 n σ' loc' h' adr' a' w' → Kp (fun i => wrC i x) (fun i => stC cx i x) loc adr h a w loc' adr' h' a' w' → k σ' loc' h' → y.wp cx.P Q a' w')
    (hK : ∀ ex σ' loc' h' adr' a' w', St cx w0 h0 n σ' loc' h' adr' a' w' → Kp (fun i => wrC i (.seq x y)) (fun i => stC cx i (.seq x y)) loc adr h a w loc' adr' h' a' w' → K ex σ' loc' h' → Q (exOf ex) a' w') :
    (Code.seq x y).wp cx.P Q a w := by
  refine wp_seq (ihx _ _ H fun ex σ' loc' h' adr' a' w' st' kp hk => ?_)
  have kp2 : Kp (fun i => wrC i (.seq x y)) (fun i => stC cx i (.seq x y)) loc adr h a w loc' adr' h' a' w' := kp.mono (fun k hk => by simp [wrC, hk]) (fun k hk => by simp [stC, hk])
  cases ex with
  | normal => exact hy _ _ _ _ _ _ st' kp hk
  | ret => exact hK .ret _ _ _ _ _ _ st' kp2 hk
  | exit id => exact hK (.exit id) _ _ _ _ _ _ st' kp2 hk

/-- THE FORMULA OF CODE IS TRUE OF IT. -/
theorem vc_sound (cok : CxOk cx) : ∀ (c : Code) (an : Ann) (K : Kont) (σ : Env) (loc : Loc) (h : Hp) (adr : Nat → Nat) (a : Act) (w : World) (Q : Exit → Act → World → Prop), dstOk n c = true →
    St cx w0 h0 n σ loc h adr a w → vc cx c an K σ loc h →
    (∀ ex σ' loc' h' adr' a' w', St cx w0 h0 n σ' loc' h' adr' a' w' → Kp (fun i => wrC i c) (fun i => stC cx i c) loc adr h a w loc' adr' h' a' w' → K ex σ' loc' h' → Q (exOf ex) a' w') → c.wp cx.P Q a w := by
  intro c
  induction c with
  | skip => intro an K σ loc h adr a w Q _ st H hK; exact wp_skip (hK .normal _ _ _ _ _ _ st .refl H)
  | region id ops draw =>
    intro an K σ loc h adr a w Q hd st H hK
    refine region_run (an := an) cok (fun o ho d hod => ?_) st H fun σ' loc' h' adr' a' w' st' kp hk => hK .normal _ _ _ _ _ _ st' kp hk
    have := List.all_eq_true.1 hd o ho
    rw [hod] at this
    simpa [Nat.blt_eq] using this
  | seq x y ihx ihy =>
    intro an K σ loc h adr a w Q hd st H hK
    simp only [dstOk, Bool.and_eq_true] at hd
    have fin : ∀ an : Ann, vc cx x an.l (Kseq (fun σ' loc' h' => stopOr an.r (vc cx y an.r K σ' loc' h')) K) σ loc h → (Code.seq x y).wp cx.P Q a w := by
      intro an H
      refine seq_sound (fun K Q H hK => ihx _ K σ loc h adr a w Q hd.1 st H hK) H (fun σ' loc' h' adr' a' w' st' kp hk => ?_) hK
      refine ihy an.r K _ _ _ _ _ _ Q hd.2 st' (stopOr_elim hk) fun ex σ2 loc2 h2 adr2 a2 w2 st2 kp2 hk2 => hK _ _ _ _ _ _ _ st2 ?_ hk2
      exact Kp.trans (kp.mono (fun k hk => by simp [wrC, hk]) (fun k hk => by simp [stC, hk])) (kp2.mono (fun k hk => by simp [wrC, hk]) (fun k hk => by simp [stC, hk]))
    unfold vc at H
    cases an with
    | join m p q =>
      dsimp only at H
      cases hm : m.ok cx x <;> rw [hm] at H <;> try exact False.elim H
      dsimp only at H
      have H1 := H (Prd.mk m.shs fun vs h' => vc cx y q K (m.env σ vs) (m.locv loc vs) h') (Prd.from_mk _ _)
      refine seq_sound (fun K Q H hK => ihx _ K σ loc h adr a w Q hd.1 st H hK) H1 (fun σ' loc' h' adr' a' w' st' kp hk => ?_) hK
      obtain ⟨vs, hv, _, H2⟩ := Prd.app_all _ _ _ _ _ (Prd.all_mk _ _) hk
      obtain ⟨st2, kp2⟩ := St.join hm st st' kp hv
      refine ihy q K _ _ _ _ _ _ Q hd.2 st2 H2 fun ex σ3 loc3 h3 adr3 a3 w3 st3 kp3 hk3 => hK _ _ _ _ _ _ _ st3 ?_ hk3
      exact Kp.trans (kp2.mono (fun k hk => by simp [wrC, hk]) (fun k hk => by simp [stC, hk])) (kp3.mono (fun k hk => by simp [wrC, hk]) (fun k hk => by simp [stC, hk]))
    | _ => exact fin _ H
  | cond c x y ihx ihy =>
    intro an K σ loc h adr a w Q hd st H hK
    simp only [dstOk, Bool.and_eq_true] at hd
    unfold vc at H
    cases ho : opnd σ c <;> rw [ho] at H <;> try exact False.elim H
    rename_i v
    cases v <;> try exact False.elim H
    rename_i t
    have he := q_val st.hc ho
    dsimp only at H
    cases t with
    | true => exact wp_cond_true he (ihx _ K _ _ _ _ _ _ Q hd.1 st (stopOr_elim H) fun ex σ2 loc2 h2 adr2 a2 w2 st2 kp2 hk2 => hK _ _ _ _ _ _ _ st2 (kp2.mono (fun k hk => by simp [wrC, hk]) (fun k hk => by simp [stC, hk])) hk2)
    | false => exact wp_cond_false he (ihy _ K _ _ _ _ _ _ Q hd.2 st (stopOr_elim H) fun ex σ2 loc2 h2 adr2 a2 w2 st2 kp2 hk2 => hK _ _ _ _ _ _ _ st2 (kp2.mono (fun k hk => by simp [wrC, hk]) (fun k hk => by simp [stC, hk])) hk2)
  | block id c ih =>
    intro an K σ loc h adr a w Q hd st H hK
    unfold vc at H
    refine wp_block (ih _ _ _ _ _ _ _ _ _ hd st H fun ex σ' loc' h' adr' a' w' st' kp hk => ?_)
    cases ex with
    | normal => exact hK .normal _ _ _ _ _ _ st' kp hk
    | ret => exact hK .ret _ _ _ _ _ _ st' kp hk
    | exit i =>
      simp only [Kblk] at hk
      simp only [exOf, Exit.inBlock]
      cases hb : Nat.beq i id with
      | true =>
        rw [hb] at hk
        rw [if_pos (Nat.eq_of_beq_eq_true hb)]
        exact hK .normal _ _ _ _ _ _ st' kp hk
      | false =>
        rw [hb] at hk
        rw [if_neg (fun e => by subst e; rw [Nat.beq_refl] at hb; cases hb)]
        exact hK (.exit i) _ _ _ _ _ _ st' kp hk
  | loop c ih =>
    intro an K σ loc h adr a w Q hd st H hK
    unfold vc at H
    cases an <;> try exact False.elim H
    rename_i m x
    dsimp only at H
    cases hm : m.ok cx c <;> rw [hm] at H <;> try exact False.elim H
    dsimp only at H
    obtain ⟨I, ⟨n0, hn0⟩, hr⟩ := H
    let J : Nat → Act → World → Prop := fun i a' w' => ∃ vs h' adr', St cx w0 h0 n (m.env σ vs) (m.locv loc vs) h' adr' a' w' ∧ Kp (fun i => wrC i c) (fun i => stC cx i c) loc adr h a w (m.locv loc vs) adr' h' a' w' ∧
      vc cx c x (Kseq (fun σ' loc' h'' => ∃ k, k < i ∧ Prd.app m.shs (I k) (m.get σ' loc') h'') K) (m.env σ vs) (m.locv loc vs) h'
    have hJ : ∀ i σ' loc' h' adr' a' w', St cx w0 h0 n σ' loc' h' adr' a' w' → Kp (fun i => wrC i c) (fun i => stC cx i c) loc adr h a w loc' adr' h' a' w' → Prd.app m.shs (I i) (m.get σ' loc') h' → J i a' w' := by
      intro i σ' loc' h' adr' a' w' st' kp hk
      obtain ⟨vs, hv, _, H2⟩ := Prd.app_all _ _ _ _ _ (hr i) hk
      obtain ⟨st2, kp2⟩ := St.join hm st st' kp hv
      exact ⟨vs, h', adr', st2, kp2, H2⟩
    have hx0 : ∃ i, J i a w := ⟨n0, hJ n0 _ _ _ _ _ _ st .refl hn0⟩
    refine wp_loop (fun a' w' => ∃ i, J i a' w') (fun a' w' => lst (fun i => J i a' w')) hx0 fun a1 w1 hx1 => ?_
    obtain ⟨vs, h1, adr1, st1, kp1, H1⟩ := lst_spec hx1
    refine ih _ _ _ _ _ _ _ _ _ hd st1 H1 fun ex σ' loc' h' adr' a' w' st' kp hk => ?_
    have kp2 := Kp.trans kp1 kp
    cases ex with
    | normal =>
      obtain ⟨k, hlt, hk⟩ := hk
      have := hJ k _ _ _ _ _ _ st' kp2 hk
      exact ⟨⟨k, this⟩, Nat.lt_of_le_of_lt (lst_le this) hlt⟩
    | ret => exact hK .ret _ _ _ _ _ _ st' kp2 hk
    | exit i => exact hK (.exit i) _ _ _ _ _ _ st' kp2 hk
  | exit id => intro an K σ loc h adr a w Q _ st H hK; exact wp_exit (hK (.exit id) _ _ _ _ _ _ st .refl H)
  | ret => intro an K σ loc h adr a w Q _ st H hK; exact wp_ret (hK .ret _ _ _ _ _ _ st .refl H)
  | _ => intro an K σ loc h adr a w Q _ st H hK; exact False.elim H
end

/-- An instruction that only reads. -/
def RO {α : Type} : Sem α → Prop
  | .pure _ => True
  | .load _ _ k => ∀ v, RO (k v)
  | .program k => ∀ P, RO (k P)
  | .halt _ => True
  | _ => False

theorem RO.bind {α β : Type} (s : Sem α) (f : α → Sem β) (hf : ∀ a, RO (f a)) (h : RO s) : RO (s.bind f) := by
  induction s with
  | pure a => exact hf a
  | load m a k ih => exact fun v => ih v (h v)
  | program k ih => exact fun P => ih P (h P)
  | halt x => trivial
  | _ => exact False.elim h

theorem ro_b {α β : Type} {s : Sem α} {f : α → Sem β} (h : RO s) (hf : ∀ a, RO (f a)) : RO (s >>= f) := RO.bind s f hf h

theorem ro_sound {P : Program} {α : Type} (s : Sem α) : ∀ {K : α → Hp → Prop} {h : Hp} {w : World}, RO s → wpH P s K h → Sub h w → ∃ x, s.run P w = .ok x w ∧ K x h := by
  induction s with
  | pure a => intro K h w _ H _; exact ⟨a, rfl, H⟩
  | load m a k ih =>
    rintro K h w hr ⟨v, hc, H⟩ hs
    obtain ⟨x, h1, h2⟩ := ih v (hr v) H hs
    exact ⟨x, by simp only [Sem.run, Hp.cell_world hs hc]; exact h1, h2⟩
  | program k ih =>
    intro K h w hr H hs
    obtain ⟨x, h1, h2⟩ := ih P (hr P) H hs
    exact ⟨x, h1, h2⟩
  | halt x => intro K h w _ H; exact False.elim H
  | _ => intro K h w hr; exact False.elim hr

theorem ro_loadCells (a : Addr) : ∀ (n i : Nat) (acc : Array Value), RO (loadCellsFrom a i n acc)
  | 0, _, _ => trivial
  | n + 1, i, acc => by
    unfold loadCellsFrom
    exact ro_b (fun _ => trivial) fun v => ro_loadCells a n (i + 1) (acc.push v)

theorem ro_loadVar (t : TypeId) (a : Addr) : RO (loadVar t a) := by
  unfold loadVar
  refine ro_b ?_ fun b => ?_
  · unfold isAgg
    refine ro_b ?_ fun d => ?_
    · unfold underlying
      refine ro_b (fun _ => trivial) fun P => ?_
      cases P.underlying t <;> trivial
    · cases d <;> trivial
  · cases b with
    | true =>
      simp only [if_true]
      refine ro_b ?_ fun n => ro_b (ro_loadCells a n 0 #[]) fun _ => trivial
      unfold sizeOf
      refine ro_b ?_ fun _ => trivial
      unfold typeInfo
      refine ro_b (fun _ => trivial) fun P => ?_
      cases P.info? t <;> trivial
    | false => exact fun _ => trivial

section
variable {cx : Cx} {w0 : World} {h0 : Hp} {n : Nat}

theorem res_run (tok : TOk cx.P cx.T) {σ : Env} {loc : Loc} {h : Hp} {adr : Nat → Nat} {a : Act} {w : World} (st : St cx w0 h0 n σ loc h adr a w) (g : ResultVar → Sem Value)
    (g1 : ∀ t, g (.tmp t) = pure (a.tmps.getD t undef)) (g2 : ∀ b t, g (.cell b t) = do loadVar t (← asAddr (a.tmps.getD b undef))) : ∀ (rs : List ResultVar) (vs : List Value), resOf cx σ loc rs = some vs →
    (rs.mapM g).run cx.P w = .ok vs w ∧ vs.length = rs.length := by
  intro rs
  induction rs with
  | nil => intro vs h; cases h; exact ⟨rfl, rfl⟩
  | cons r rs ih =>
    intro vs h
    rw [List.mapM_cons]
    cases r with
    | tmp t =>
      unfold resOf at h
      cases hs : σ t <;> rw [hs] at h <;> try (cases h; done)
      rename_i v
      dsimp only at h
      cases hr : resOf cx σ loc rs <;> rw [hr] at h <;> try (cases h; done)
      rename_i us
      cases h
      have hv := st.tm t
      rw [hs] at hv
      have hv : a.tmps.getD t undef = v := hv
      obtain ⟨i1, i2⟩ := ih us hr
      simp [g1, hv, i1, i2]
    | cell b t =>
      unfold resOf at h
      cases hs : σ b <;> rw [hs] at h <;> try (cases h; done)
      rename_i k o
      cases o with
      | succ o => cases h
      | zero =>
        cases hl : loc k <;> simp only [hl] at h <;> try (cases h; done)
        rename_i p
        obtain ⟨c, t'⟩ := p
        simp only at h
        cases hr : resOf cx σ loc rs with
        | none => rw [hr] at h; cases hb : (Nat.beq c.length (cx.T t).size && (cx.T t).kind.val) <;> rw [hb] at h <;> cases h
        | some us =>
          rw [hr] at h
          cases hb : (Nat.beq c.length (cx.T t).size && (cx.T t).kind.val) <;> rw [hb] at h <;> try (cases h; done)
          simp only [Bool.and_eq_true] at hb
          cases h
          obtain ⟨i1, i2⟩ := ih us hr
          have hv := st.tm b
          rw [hs] at hv
          have hv : a.tmps.getD b undef = .pointer (some ⟨adr k, 0, none⟩) := hv
          have hsub := st.with hl
          have hat : At (Hp.set h (adr k) (.cells c.toArray t' (0, 0))) ⟨adr k, 0, none⟩ c := ⟨rfl, c.toArray, t', (0, 0), Hp.set_same _ _ _, fun i hi => by simp⟩
          obtain ⟨x, x1, x2⟩ := ro_sound _ (ro_loadVar t ⟨adr k, 0, none⟩) (wpH_loadVar (K := fun v _ => v = mkA (cx.T t).kind.agg c) tok hb.2 (Nat.eq_of_beq_eq_true hb.1) hat rfl) hsub
          subst x2
          simp only [g2, hv]
          cases hg : (cx.T t).kind.agg <;> rw [hg] at x1 <;> simp [asAddr, x1, i1, i2, mkA]

theorem results_run (tok : TOk cx.P cx.T) {fn : Func} {σ : Env} {loc : Loc} {h : Hp} {adr : Nat → Nat} {a : Act} {w : World} (st : St cx w0 h0 n σ loc h adr a w) {R : Value → Hp → Prop} {ex : Ex}
    (H : Kret cx fn.results.toList R ex σ loc h) : ∃ v, (results fn a.tmps).run cx.P w = .ok v w ∧ R v h := by
  unfold Kret at H
  have key : ∀ vs, resOf cx σ loc fn.results.toList = some vs → (results fn a.tmps).run cx.P w = .ok (match vs with | [v] => v | vs => .tuple vs.toArray) w := by
    intro vs hv
    obtain ⟨g, hg⟩ : ∃ g : ResultVar → Sem Value, g = (fun | .tmp t => pure (a.tmps.getD t undef) | .cell b t => do loadVar t (← asAddr (a.tmps.getD b undef))) := ⟨_, rfl⟩
    obtain ⟨h1, h2⟩ := res_run tok st g (fun _ => by rw [hg]) (fun _ _ => by rw [hg]) _ _ hv
    have e : results fn a.tmps = (List.toArray <$> fn.results.toList.mapM g) >>= fun vs => pure (if h : vs.size = 1 then vs[0] else .tuple vs) := by
      unfold results
      rw [Array.mapM_eq_mapM_toList, hg]
      rfl
    rw [e, Sem.run_bind, Sem.run_map, h1]
    match vs with
    | [] => rfl
    | [v] => rfl
    | _ :: _ :: _ => simp
  cases ex with
  | exit i => exact False.elim H
  | _ =>
    dsimp only at H
    cases hr : resOf cx σ loc fn.results.toList with
    | none => rw [hr] at H; exact False.elim H
    | some vs =>
      rw [hr] at H
      refine ⟨_, key vs hr, ?_⟩
      match vs, H with
      | [], H => exact H
      | [v], H => exact H
      | _ :: _ :: _, H => exact H
end

/-- THE FORMULA OF A CALL IS TRUE OF IT. -/
theorem vcFn_sound {cx : Cx} (cok : CxOk cx) {f : FuncId} {fn : Func} (hf : cx.P.funcs[f]? = some fn) (an : Ann) (args : List Value) {h : Hp} {R : Value → Hp → Prop} (H : vcFn cx fn an args h R) : FnH cx.P f args.toArray h R := by
  intro w hs
  unfold vcFn at H
  cases hb : fn.body with
  | none => rw [hb] at H; exact False.elim H
  | some c =>
    rw [hb] at H
    dsimp only at H
    cases hd : (dstOk fn.ntmps c && Nat.ble args.length fn.ntmps) <;> rw [hd] at H <;> try exact False.elim H
    simp only [Bool.and_eq_true] at hd
    have hle := Nat.le_of_ble_eq_true hd.2
    refine calls_of_wp hf hb ?_
    have st : St cx w h fn.ntmps (envOf args) (fun _ => none) h (fun _ => 0) { tmps := args.toArray ++ Array.replicate (fn.ntmps - args.toArray.size) undef, defers := [] } w := by
      refine ⟨rfl, by simp; omega, fun i => ?_, fun i k o hi => ?_, Fr.refl hs, fun k c t hk => (by cases hk), fun k l hk => absurd rfl hk⟩
      · unfold envOf
        cases hi : args[i]? with
        | none => trivial
        | some v =>
          have hlt := (List.getElem?_eq_some_iff.1 hi).1
          dsimp only
          simp only [tmOk, Array.getD_eq_getD_getElem?]
          rw [Array.getElem?_append_left (by simpa using hlt), List.getElem?_toArray, hi]
          rfl
      · unfold envOf at hi
        cases hj : args[i]? <;> rw [hj] at hi <;> cases hi
    refine vc_sound cok c an _ _ _ _ _ _ _ _ hd.1 st H fun ex σ' loc' h' adr' a' w' st' _ hk => ?_
    cases ex with
    | normal =>
      obtain ⟨v, h1, h2⟩ := results_run cok.tok st' hk
      exact ⟨st'.nod, v, h1, v, h', rfl, st'.fr, h2⟩
    | ret =>
      obtain ⟨v, h1, h2⟩ := results_run cok.tok st' hk
      exact ⟨st'.nod, v, h1, v, h', rfl, st'.fr, h2⟩
    | exit i => exact False.elim hk

end Go.Proofs.YtkhfofnglkekoaaDoor
