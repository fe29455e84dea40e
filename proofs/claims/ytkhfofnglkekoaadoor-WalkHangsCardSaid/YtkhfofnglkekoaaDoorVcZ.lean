/- Own verification-condition framework, part Z: a region whose order is drawn. Conditions: none. -/
import Derived.Test.YtkhfofnglkekoaaDoorVcY
namespace Go.Proofs.YtkhfofnglkekoaaDoor

/-- Steps in an order given. -/
def vcL (cx : Cx) (m : Option (Hp → Prop)) (all : List Oper) (K : Env → Loc → Hp → Prop) : List Nat → Env → Loc → Hp → Prop
  | [] => K
  | i :: r => match all[i]? with
    | some o => vcStep cx m all o (vcL cx m all K r)
    | none => fun _ _ _ => False

theorem vcQ_mono {cx : Cx} {o : Oper} {σ : Env} (own : OwnOk cx σ) (he : effB cx o = false) {K K' : SV → Loc → Prop} {loc : Loc} {rd rd' : (Hp → Prop) → Prop} (hk : ∀ v l, K v l → K' v l) (hr : ∀ φ, rd φ → rd' φ)
    (H : vcQ cx o K σ loc rd) : vcQ cx o K' σ loc rd' := by
  obtain ⟨a, u, h1, r⟩ := vcQ_wit own he _ _ _ H
  exact r _ _ _ hr (fun _ _ _ => rfl) (hk _ _ h1)

theorem run_mono {cx : Cx} {S : Hp → Prop} {o : Oper} {K K' : Env → Loc → Hp → Prop} {σ : Env} {loc : Loc} {h : Hp} (own : OwnOk cx σ) (hs : S h) (hr : Real h)
    (hk : ∀ σ l h, OwnOk cx σ → S h → Real h → K σ l h → K' σ l h) (H : vcRun cx (some S) o K σ loc h) : vcRun cx (some S) o K' σ loc h := by
  unfold vcRun at H ⊢
  cases hx : effB cx o <;> rw [hx] at H <;> dsimp only at H ⊢
  · exact vcQ_mono own hx (fun v l h1 => hk _ _ _ (put_own own _ _) hs hr h1) (fun _ h => h) H
  · exact vcE_mono (fun v h' h1 => ⟨h1.2.1, hk _ _ _ (put_own own _ _) h1.2.1 h1.1 h1.2.2⟩) (vcE_real hr H)

theorem step_mono {cx : Cx} {S : Hp → Prop} {all : List Oper} {o : Oper} {K K' : Env → Loc → Hp → Prop} {σ : Env} {loc : Loc} {h : Hp} (own : OwnOk cx σ) (hs : S h) (hr : Real h)
    (hk : ∀ σ l h, OwnOk cx σ → S h → Real h → K σ l h → K' σ l h) (H : vcStep cx (some S) all o K σ loc h) : vcStep cx (some S) all o K' σ loc h := by
  rw [vcStep_iff] at H ⊢
  rcases H with ⟨h1, H⟩ | ⟨h1, H⟩
  · exact .inl ⟨h1, run_mono own hs hr hk H⟩
  · exact .inr ⟨h1, hk _ _ _ (put_own own _ _) hs hr H⟩

/-- An operation that is independent of all that come ahead of it comes first. -/
theorem pull {cx : Cx} {S : Hp → Prop} {all : List Oper} {K : Env → Loc → Hp → Prop} (cok : CxOk cx) {i : Nat} {o : Oper} (ho : all[i]? = some o) {B : List Nat} : ∀ (A : List Nat),
    (∀ j ∈ A, ∃ x, all[j]? = some x ∧ indep cx all x o = true) → ∀ σ loc h, OwnOk cx σ → S h → Real h → vcL cx (some S) all K (A ++ i :: B) σ loc h → vcL cx (some S) all K (i :: (A ++ B)) σ loc h
  | [], _, _, _, _, _, _, _, H => H
  | j :: A, hA, σ, loc, h, own, hs, hr, H => by
    obtain ⟨x, hx, hi⟩ := hA j (by simp)
    have e1 : vcL cx (some S) all K (j :: A ++ i :: B) σ loc h = vcStep cx (some S) all x (vcL cx (some S) all K (A ++ i :: B)) σ loc h := by
      rw [List.cons_append]; simp only [vcL, hx]
    rw [e1] at H
    have H1 := step_mono own hs hr (fun σ l h a b c d => pull cok ho A (fun j hj => hA j (List.mem_cons_of_mem _ hj)) σ l h a b c d) H
    have e2 : vcL cx (some S) all K (i :: (A ++ B)) = vcStep cx (some S) all o (vcL cx (some S) all K (A ++ B)) := by simp only [vcL, ho]
    rw [e2] at H1
    have H2 := step_swap cok hi own hr H1
    rw [List.cons_append]
    simp only [vcL, ho, hx]
    exact H2

theorem vcOps_L {cx : Cx} {S : Hp → Prop} {all : List Oper} {K : Env → Loc → Hp → Prop} : ∀ (l : List Oper) (i : Nat) (σ : Env) (loc : Loc) (h : Hp), (∃ t, all.drop i = l ++ t) → OwnOk cx σ → S h → Real h →
    vcOps cx (some S) all l K σ loc h → vcL cx (some S) all K (List.range' i l.length) σ loc h
  | [], _, _, _, _, _, _, _, _, H => H
  | o :: r, i, σ, loc, h, ⟨t, hl⟩, own, hs, hr, H => by
    have ho : all[i]? = some o := by
      have : (all.drop i)[0]? = some o := by rw [hl]; rfl
      simpa using this
    rw [List.length_cons, List.range'_succ]
    simp only [vcL, ho]
    refine step_mono own hs hr (fun σ l h a b c d => vcOps_L r (i + 1) σ l h ⟨t, ?_⟩ a b c d) (vcOps_step H)
    rw [← List.drop_drop, hl]; rfl

/-- Without an operation on memory: as long as memory is as it is. -/
theorem vcOps_quiet {cx : Cx} {all : List Oper} {K : Env → Loc → Hp → Prop} : ∀ (l : List Oper), l.any (effB cx) = false → ∀ (σ : Env) (loc : Loc) (h : Hp), OwnOk cx σ →
    vcOps cx none all l K σ loc h → vcOps cx (some fun g => g = h) all l K σ loc h
  | [], _, _, _, _, _, H => H
  | o :: r, hq, σ, loc, h, own, H => by
    simp only [List.any_cons, Bool.or_eq_false_iff] at hq
    have ih : ∀ σ, OwnOk cx σ → ∀ loc, vcOps cx none all r K σ loc h → vcOps cx (some fun g => g = h) all r K σ loc h := fun σ own loc H => vcOps_quiet r hq.2 σ loc h own H
    have rn : ∀ σ, OwnOk cx σ → vcRun cx none o (vcOps cx none all r K) σ loc h → vcRun cx (some fun g => g = h) o (vcOps cx (some fun g => g = h) all r K) σ loc h := by
      intro σ own H
      unfold vcRun at H ⊢
      rw [hq.1] at H ⊢
      dsimp only at H ⊢
      exact vcQ_mono own hq.1 (fun v l h1 => ih _ (put_own own _ _) _ h1) (fun φ hφ g hg => hg ▸ hφ) H
    have ow : ∀ d b, OwnOk cx (upd σ d (.val b)) := by
      intro d b i k o hi
      rw [upd_at] at hi
      by_cases hd : i = d
      · rw [if_pos hd] at hi; cases hi
      · rw [if_neg hd] at hi; exact own i k o hi
    unfold vcOps at H ⊢
    cases hg : o.guard with
    | none => rw [hg] at H; exact rn _ own H
    | some p =>
      obtain ⟨j, want⟩ := p
      rw [hg] at H
      dsimp only at H ⊢
      cases hd : gtmp all j <;> rw [hd] at H <;> try exact False.elim H
      rename_i d
      dsimp only at H ⊢
      cases hs : σ d <;> rw [hs] at H <;> try exact False.elim H
      rename_i v
      cases v <;> try exact False.elim H
      case bool t =>
        dsimp only at H ⊢
        cases want <;> cases t <;> simp only [bsplit] at H ⊢ <;> first
          | exact rn _ (ow _ _) H
          | exact ih _ (put_own (ow _ _) _ _) _ H
      case tuple vs => exact ih _ (put_own own _ _) _ H

/-! The masks. -/
theorem masks_pre : ∀ (l : List Oper) (acc : List Nat), ∃ t, masks l acc = acc ++ t ∧ t.length = l.length
  | [], acc => ⟨[], by simp [masks], rfl⟩
  | o :: r, acc => by
    obtain ⟨t, h1, h2⟩ := masks_pre r (acc ++ [mask1 acc o.after.toList 0])
    exact ⟨mask1 acc o.after.toList 0 :: t, by rw [masks, h1, List.append_assoc]; rfl, by simp [h2]⟩

theorem mask1_bit {acc : List Nat} : ∀ (es : List Edge) (s b : Nat), (mask1 acc es s).testBit b = true → s.testBit b = true ∨ ∃ e ∈ es, Region.binds .any e = true ∧ (e.on = b ∨ (acc.getD e.on 0).testBit b = true)
  | [], _, _, h => .inl h
  | e :: r, s, b, h => by
    rw [mask1] at h
    rcases mask1_bit r _ b h with h1 | ⟨e', he, h1⟩
    · cases hb : Region.binds .any e with
      | false => rw [hb] at h1; exact .inl h1
      | true =>
        rw [hb] at h1
        simp only [cond_true, Nat.testBit_or, Bool.or_eq_true, Nat.testBit_two_pow] at h1
        rcases h1 with (h1 | h1) | h1
        · exact .inl h1
        · exact .inr ⟨e, by simp, hb, .inl (by simpa using h1)⟩
        · exact .inr ⟨e, by simp, hb, .inr h1⟩
    · exact .inr ⟨e', List.mem_cons_of_mem _ he, h1⟩

theorem masks_bit {all : List Oper} : ∀ (l pre : List Oper) (acc : List Nat), pre ++ l = all → acc.length = pre.length → backOk l pre.length = true → ∀ i o, all[i]? = some o → pre.length ≤ i →
    ∀ b, ((masks l acc).getD i 0).testBit b = true → ∃ e ∈ o.after.toList, Region.binds .any e = true ∧ (e.on = b ∨ ((masks l acc).getD e.on 0).testBit b = true)
  | [], pre, acc, hp, ha, _, i, o, ho, hi, b, _ => by
    simp only [List.append_nil] at hp
    subst hp
    rw [List.getElem?_eq_none hi] at ho
    cases ho
  | x :: r, pre, acc, hp, ha, hk, i, o, ho, hi, b, hb => by
    simp only [backOk, Bool.and_eq_true] at hk
    obtain ⟨t, h1, h2⟩ := masks_pre r (acc ++ [mask1 acc x.after.toList 0])
    by_cases hh : i = pre.length
    · subst hh
      have hx : o = x := by
        rw [← hp, List.getElem?_append_right (Nat.le_refl _), Nat.sub_self] at ho
        exact (Option.some.inj ho).symm
      subst hx
      rw [masks] at hb ⊢
      rw [h1] at hb ⊢
      have e1 : ((acc ++ [mask1 acc o.after.toList 0]) ++ t).getD pre.length 0 = mask1 acc o.after.toList 0 := by
        rw [List.getD_eq_getElem?_getD, List.getElem?_append_left (by simp [ha]), ← ha, List.getElem?_append_right (Nat.le_refl _), Nat.sub_self]; rfl
      rw [e1] at hb
      rcases mask1_bit _ _ _ hb with h3 | ⟨e, he, hbd, h3⟩
      · simp at h3
      · refine ⟨e, he, hbd, h3.imp id fun h4 => ?_⟩
        have hlt : e.on < pre.length := by
          have := List.all_eq_true.1 hk.1 e he
          rw [hbd] at this
          simpa [Nat.blt_eq] using this
        rw [List.append_assoc, List.getD_eq_getElem?_getD, List.getElem?_append_left (by rw [ha]; exact hlt), ← List.getD_eq_getElem?_getD]
        exact h4
    · have := masks_bit r (pre ++ [x]) (acc ++ [mask1 acc x.after.toList 0]) (by simpa using hp) (by simp [ha]) (by simpa using hk.2) i o ho (by simp; omega) b (by rw [masks] at hb; exact hb)
      rw [masks]
      exact this

theorem drawPair_spec {cx : Cx} {all : List Oper} {mj : Nat} {y : Oper} : ∀ (l : List Oper) (i : Nat), drawPair cx all mj y l i = true → ∀ k x, l[k]? = some x → mj.testBit (i + k) = true ∨ indep cx all x y = true
  | [], _, _, k, x, h => by simp at h
  | x :: r, i, H, k, z, h => by
    simp only [drawPair, Bool.and_eq_true, Bool.or_eq_true] at H
    cases k with
    | zero => simp at h; subst h; simpa using H.1
    | succ k =>
      have := drawPair_spec r (i + 1) H.2 k z (by simpa using h)
      rw [show i + (k + 1) = i + 1 + k by omega]
      exact this

theorem drawGo_spec {cx : Cx} {all : List Oper} {ms : List Nat} : ∀ (l pre : List Oper) (j : Nat), pre.length = j → drawOkGo cx all ms pre l j = true → ∀ k i x y, (pre ++ l)[k]? = some y → j ≤ k → i < k → (pre ++ l)[i]? = some x →
    (ms.getD k 0).testBit i = true ∨ indep cx all x y = true
  | [], pre, j, hj, _, k, i, x, y, hk, hjk, _, _ => by
    rw [List.append_nil, List.getElem?_eq_none (by omega)] at hk
    cases hk
  | o :: r, pre, j, hj, H, k, i, x, y, hk, hjk, hik, hi => by
    simp only [drawOkGo, Bool.and_eq_true] at H
    by_cases hh : k = j
    · subst hh
      subst hj
      rw [List.getElem?_append_right (Nat.le_refl _), Nat.sub_self] at hk
      cases Option.some.inj hk
      rw [List.getElem?_append_left hik] at hi
      have := drawPair_spec pre 0 H.1 i x hi
      simpa using this
    · exact drawGo_spec r (pre ++ [o]) (j + 1) (by simp [hj]) H.2 k i x y (by simpa using hk) (by omega) hik (by simpa using hi)

/-! The region. -/
def pend (lo hi : Nat) (listed : Array Bool) : List Nat := (List.range' lo (hi - lo)).filter fun i => !listed.getD i true

theorem pend_split : ∀ (l : List Nat) (p : Nat → Bool) (i : Nat), l.Pairwise (· < ·) → i ∈ l → p i = true →
    ∃ A B, l.filter p = A ++ i :: B ∧ (∀ j ∈ A, j < i ∧ p j = true ∧ j ∈ l) ∧ (l.filter fun k => p k && !(k == i)) = A ++ B
  | [], _, _, _, h, _ => by cases h
  | x :: r, p, i, hl, hm, hp => by
    rw [List.pairwise_cons] at hl
    by_cases hx : x = i
    · subst hx
      refine ⟨[], r.filter p, by simp [hp], by simp, ?_⟩
      have : ∀ k ∈ r, (p k && !(k == x)) = p k := fun k hk => by
        have := hl.1 k hk
        have : (k == x) = false := by simp; omega
        rw [this]; simp
      simp only [List.filter_cons, hp, beq_self_eq_true, Bool.not_true, Bool.and_false, Bool.false_eq_true, if_false, List.nil_append]
      exact List.filter_congr this
    · have hm' : i ∈ r := by
        rcases List.mem_cons.1 hm with h | h
        · exact absurd h.symm hx
        · exact h
      obtain ⟨A, B, h1, h2, h3⟩ := pend_split r p i hl.2 hm' hp
      have hlt := hl.1 i hm'
      have hne : (x == i) = false := by simp [hx]
      cases hpx : p x with
      | true =>
        refine ⟨x :: A, B, by simp [hpx, h1], fun j hj => ?_, by simp [hpx, h3, hne]⟩
        rcases List.mem_cons.1 hj with rfl | hj
        · exact ⟨hlt, hpx, by simp⟩
        · obtain ⟨a, b, c⟩ := h2 j hj; exact ⟨a, b, List.mem_cons_of_mem _ c⟩
      | false =>
        refine ⟨A, B, by simp [hpx, h1], fun j hj => ?_, by simp [hpx, h3]⟩
        obtain ⟨a, b, c⟩ := h2 j hj; exact ⟨a, b, List.mem_cons_of_mem _ c⟩

section
variable {cx : Cx} {w0 : World} {h0 : Hp} {n : Nat}

theorem barAt_spec {ms : List Nat} {n p : Nat} (h : barAt ms n p = true) : ∀ i, p ≤ i → i < n → ∀ j, j < p → (ms.getD i 0).testBit j = true := by
  intro i h1 h2 j h3
  have := List.all_eq_true.1 h i (by rw [List.mem_range'_1]; omega)
  exact List.all_eq_true.1 this j (List.mem_range.2 h3)

/-- What is listed is closed. -/
def Clo (ops : Array Oper) (listed : Array Bool) : Prop := ∀ i, i < ops.size → listed.getD i true = true → ∀ b, ((masks ops.toList []).getD i 0).testBit b = true → listed.getD b false = true

theorem getD_flip {listed : Array Bool} {i : Nat} (h : i < listed.size) (a b : Bool) : listed.getD i a = listed.getD i b := by
  simp [h]

theorem back_spec {all : List Oper} (hb : backOk all 0 = true) : ∀ k o, all[k]? = some o → ∀ e ∈ o.after.toList, Region.binds .any e = true → e.on < k := by
  have hbk : ∀ (l pre : List Oper) (j : Nat), pre.length = j → backOk l j = true → ∀ k o, (pre ++ l)[k]? = some o → j ≤ k → ∀ e ∈ o.after.toList, Region.binds .any e = true → e.on < k := by
    intro l
    induction l with
    | nil => intro pre j hj _ k o ho hjk; rw [List.append_nil, List.getElem?_eq_none (by omega)] at ho; cases ho
    | cons x r ih =>
      intro pre j hj H k o ho hjk e he hbd
      simp only [backOk, Bool.and_eq_true] at H
      by_cases hh : k = j
      · subst hh
        subst hj
        rw [List.getElem?_append_right (Nat.le_refl _), Nat.sub_self] at ho
        cases Option.some.inj ho
        have := List.all_eq_true.1 H.1 e he
        rw [hbd] at this
        simpa [Nat.blt_eq] using this
      · exact ih (pre ++ [x]) (j + 1) (by simp [hj]) H.2 k o (by simpa using ho) (by omega) e he hbd
  intro k o ho
  exact hbk all [] 0 rfl hb k o (by simpa using ho) (Nat.zero_le _)

theorem ready_anc {ops : Array Oper} (hb : backOk ops.toList 0 = true) {listed : Array Bool} (hsz : listed.size = ops.size) (hcl : Clo ops listed) {i : Nat} (hi : i ∈ Region.ready .any ops listed) :
    ∀ b, ((masks ops.toList []).getD i 0).testBit b = true → listed.getD b false = true := by
  obtain ⟨_, o, ho, hall⟩ := mem_ready.1 hi
  have hol : ops.toList[i]? = some o := by rw [Array.getElem?_toList]; exact ho
  intro b hbt
  obtain ⟨e, he, hbd, h4⟩ := masks_bit (all := ops.toList) ops.toList [] [] rfl rfl hb i o hol (Nat.zero_le _) b hbt
  have h5 := hall e (by simpa using he) hbd
  rcases h4 with rfl | h4
  · exact h5
  · have hlt : i < ops.size := (Array.getElem?_eq_some_iff.1 ho).1
    have hlt' : e.on < ops.size := by
      have := back_spec hb i o hol e he hbd
      omega
    exact hcl e.on hlt' (by rw [getD_flip (by omega) true false]; exact h5) b h4

theorem Clo.list {ops : Array Oper} (hb : backOk ops.toList 0 = true) {listed : Array Bool} (hsz : listed.size = ops.size) (hcl : Clo ops listed) {i : Nat} (hi : i ∈ Region.ready .any ops listed) : Clo ops (listed.setIfInBounds i true) := by
  intro k hk hlk b hbt
  by_cases hki : k = i
  · subst hki; exact getD_set_true (ready_anc hb hsz hcl hi b hbt)
  · rw [getD_set_ne true (Ne.symm hki)] at hlk
    exact getD_set_true (hcl k hk hlk b hbt)

theorem pend_nil {ops : Array Oper} (hb : backOk ops.toList 0 = true) {listed : Array Bool} (hsz : listed.size = ops.size) {hi : Nat} (hh : hi ≤ ops.size) (h : ∀ i, i < hi → i ∉ Region.ready .any ops listed) : ∀ i, i < hi → listed.getD i true = true := by
  intro i
  induction i using Nat.strongRecOn with
  | _ i ih =>
    intro hi
    cases hl : listed.getD i true with
    | true => rfl
    | false =>
      exfalso
      apply h i hi
      rw [mem_ready]
      have hlt : i < ops.size := by omega
      refine ⟨hl, ops[i], by simp [hlt], fun e he hbd => ?_⟩
      have h1 := back_spec hb i ops[i] (by simp [hlt]) e (by simpa using he) hbd
      rw [getD_flip (by omega) false true]
      exact ih e.on h1 (by omega)

/-- ONE PART OF A REGION WHOSE ORDER IS DRAWN. -/
theorem blk_run (cok : CxOk cx) {ops : Array Oper} {m : Option (Hp → Prop)} {K : Env → Loc → Hp → Prop} {Q : Exit → Act → World → Prop} (hd : ∀ o ∈ ops.toList, ∀ d, o.dst = some d → d < n) (hok : drawOk cx ops.toList = true)
    {lo hi : Nat} (hlh : lo < hi) (hhi : hi ≤ ops.size) (hbar : hi = ops.size ∨ barAt (masks ops.toList []) ops.size hi = true) (hm : (∃ S, m = some S) ∨ hi = lo + 1)
    {loc1 : Loc} {adr1 : Nat → Nat} {h1 : Hp} {a1 : Act} {w1 : World}
    (hK : ∀ listed σ' loc' h' adr' a' w', listed.size = ops.size → (∀ i, i < ops.size → listed.getD i true = decide (i < hi)) → Clo ops listed → St cx w0 h0 n σ' loc' h' adr' a' w' → KpR cx ops loc1 adr1 h1 a1 w1 loc' adr' h' a' w' → K σ' loc' h' →
      wpAny cx.P .any ops Q (ops.size - hi) listed a' w') : ∀ (k : Nat) (listed : Array Bool) (σ : Env) (loc : Loc) (h : Hp) (adr : Nat → Nat) (a : Act) (w : World),
    listed.size = ops.size → (pend lo hi listed).length = k → (∀ i, i < lo → listed.getD i true = true) → (∀ i, hi ≤ i → i < ops.size → listed.getD i true = false) → Clo ops listed →
    St cx w0 h0 n σ loc h adr a w → KpR cx ops loc1 adr1 h1 a1 w1 loc adr h a w → (k ≠ 0 → aftS m h) → vcL cx m ops.toList K (pend lo hi listed) σ loc h → wpAny cx.P .any ops Q (k + (ops.size - hi)) listed a w := by
  simp only [drawOk, Bool.and_eq_true] at hok
  obtain ⟨⟨hb, _⟩, hdr⟩ := hok
  have hdraw := drawGo_spec (cx := cx) (all := ops.toList) ops.toList [] 0 rfl hdr
  intro k
  induction k with
  | zero =>
    intro listed σ loc h adr a w hsz hl hlo hup hcl st kp _ H
    have he : pend lo hi listed = [] := List.length_eq_zero_iff.1 hl
    rw [he] at H
    rw [Nat.zero_add]
    refine hK listed _ _ _ _ _ _ hsz (fun i hi' => ?_) hcl st kp H
    by_cases hlt : i < hi
    · rw [decide_eq_true hlt]
      by_cases h2 : i < lo
      · exact hlo i h2
      · cases hx : listed.getD i true with
        | true => rfl
        | false =>
          exfalso
          have : i ∈ pend lo hi listed := by
            unfold pend
            rw [List.mem_filter, List.mem_range'_1]
            exact ⟨by omega, by rw [hx]; rfl⟩
          rw [he] at this
          cases this
    · rw [decide_eq_false hlt]; exact hup i (by omega) hi'
  | succ k ih =>
    intro listed σ loc h adr a w hsz hl hlo hup hcl st kp hs H
    have hs := hs (by omega)
    have inP : ∀ i, i ∈ Region.ready .any ops listed → i ∈ pend lo hi listed := by
      intro i hi'
      obtain ⟨hun, o, ho, _⟩ := mem_ready.1 hi'
      have hlt : i < ops.size := (Array.getElem?_eq_some_iff.1 ho).1
      unfold pend
      rw [List.mem_filter, List.mem_range'_1]
      refine ⟨?_, by rw [hun]; rfl⟩
      have h1 : lo ≤ i := by
        apply Classical.byContradiction
        intro hn
        rw [hlo i (by omega)] at hun
        cases hun
      have h2 : i < hi := by
        apply Classical.byContradiction
        intro hn
        rcases hbar with hbar | hbar
        · omega
        · -- all of the part is listed then
          have hall : ∀ j, j < hi → listed.getD j true = true := by
            intro j hj
            have := ready_anc hb hsz hcl hi' j (barAt_spec hbar i (by omega) hlt j hj)
            rw [getD_flip (by omega) true false]; exact this
          have : pend lo hi listed = [] := by
            unfold pend
            rw [List.filter_eq_nil_iff]
            intro j hj
            rw [List.mem_range'_1] at hj
            rw [hall j (by omega)]
            simp
          rw [this] at hl; cases hl
      omega
    rw [Nat.succ_add]
    refine ⟨fun hr => ?_, fun i hi' => ?_⟩
    · exfalso
      have hall := pend_nil hb hsz hhi (fun i _ hm => by rw [hr] at hm; cases hm)
      have : pend lo hi listed = [] := by
        unfold pend
        rw [List.filter_eq_nil_iff]
        intro j hj
        rw [List.mem_range'_1] at hj
        rw [hall j (by omega)]
        simp
      rw [this] at hl; cases hl
    · have hip := inP i hi'
      have hanc := ready_anc hb hsz hcl hi'
      obtain ⟨hun, o, ho, hall⟩ := mem_ready.1 hi'
      have hlt : i < ops.size := (Array.getElem?_eq_some_iff.1 ho).1
      have hol : ops.toList[i]? = some o := by rw [Array.getElem?_toList]; exact ho
      unfold pend at hip
      rw [List.mem_filter] at hip
      have hir := hip.1
      obtain ⟨A, B, h1, h2, h3⟩ := pend_split (List.range' lo (hi - lo)) (fun j => !listed.getD j true) i List.pairwise_lt_range' hir (by simp [hun])
      have hA : ∀ j ∈ A, ∃ x, ops.toList[j]? = some x ∧ indep cx ops.toList x o = true := by
        intro j hj
        obtain ⟨hji, hju, hjr⟩ := h2 j hj
        rw [List.mem_range'_1] at hjr hir
        have hjl : j < ops.size := by omega
        refine ⟨ops[j], by simp [hjl], ?_⟩
        rcases hdraw i j ops[j] o (by simpa using hol) (Nat.zero_le _) hji (by simp [hjl]) with h4 | h4
        · exfalso
          have h5 := hanc j h4
          simp only [Bool.not_eq_true'] at hju
          rw [getD_flip (by omega) false true] at h5
          rw [h5] at hju; cases hju
        · exact h4
      have hp : pend lo hi listed = A ++ i :: B := h1
      have hlen : (pend lo hi (listed.setIfInBounds i true)) = A ++ B := by
        rw [← h3]
        unfold pend
        refine List.filter_congr fun j hj => ?_
        by_cases hji : j = i
        · subst hji; simp [hsz, hlt]
        · rw [getD_set_ne true (Ne.symm hji)]
          have : (j == i) = false := by simp [hji]
          rw [this]; simp
      rw [hp] at H
      have hr : Real h := ⟨w, st.fr.sub⟩
      have H1 : vcL cx m ops.toList K (i :: (A ++ B)) σ loc h := by
        rcases hm with ⟨S, rfl⟩ | hm
        · exact pull cok hol A hA σ loc h st.own hs hr H
        · have : A = [] := by
            cases A with
            | nil => rfl
            | cons j A =>
              exfalso
              obtain ⟨q1, _, q2⟩ := h2 j (by simp)
              rw [List.mem_range'_1] at q2 hir
              omega
          subst this
          exact H
      simp only [vcL, hol] at H1
      refine step_op cok ho st (m := m) hs (hd o (List.mem_of_getElem? hol)) H1 fun σ' loc' h' adr' a' w' st' kp' hs' H' => ?_
      refine ih _ σ' loc' h' adr' a' w' (by simp [hsz]) ?_ (fun j hj => ?_) (fun j hj hj2 => ?_) (hcl.list hb hsz hi') st' (kp.op (List.mem_of_getElem? hol) kp') (fun _ => hs') (by rw [hlen]; exact H')
      · rw [hlen]; rw [hp] at hl; simp at hl ⊢; omega
      · by_cases hji : j = i
        · subst hji; simp [hsz, hlt]
        · rw [getD_set_ne true (Ne.symm hji)]; exact hlo j hj
      · rw [List.mem_range'_1] at hir
        rw [getD_set_ne true (by omega)]; exact hup j hj hj2

def CutsOk (ops : Array Oper) : List Nat → Nat → Prop
  | [], lo => lo = ops.size
  | hi :: cs, lo => lo < hi ∧ hi ≤ ops.size ∧ (hi = ops.size ∨ barAt (masks ops.toList []) ops.size hi = true) ∧ CutsOk ops cs hi

theorem cutsOk_app {ops : Array Oper} : ∀ (l : List Nat) (lo : Nat), l.Pairwise (· < ·) → (∀ x ∈ l, lo < x ∧ x < ops.size ∧ barAt (masks ops.toList []) ops.size x = true) → lo < ops.size → CutsOk ops (l ++ [ops.size]) lo
  | [], lo, _, _, h => ⟨h, Nat.le_refl _, .inl rfl, rfl⟩
  | x :: l, lo, hp, hx, h => by
    rw [List.pairwise_cons] at hp
    obtain ⟨h1, h2, h3⟩ := hx x (by simp)
    exact ⟨h1, by omega, .inr h3, cutsOk_app l x hp.2 (fun y hy => ⟨hp.1 y hy, (hx y (by simp [hy])).2⟩) h2⟩

theorem cutsOk_of {ops : Array Oper} (h : 0 < ops.size) : CutsOk ops (cutsOf ops.toList) 0 := by
  unfold cutsOf
  rw [Array.length_toList]
  refine cutsOk_app _ 0 (List.Pairwise.filter _ List.pairwise_lt_range') (fun x hx => ?_) h
  rw [List.mem_filter, List.mem_range'_1] at hx
  exact ⟨by omega, by omega, hx.2⟩

theorem blks_run (cok : CxOk cx) {ops : Array Oper} {K : Env → Loc → Hp → Prop} {Q : Exit → Act → World → Prop} (hd : ∀ o ∈ ops.toList, ∀ d, o.dst = some d → d < n) (hok : drawOk cx ops.toList = true)
    {loc1 : Loc} {adr1 : Nat → Nat} {h1 : Hp} {a1 : Act} {w1 : World}
    (hK : ∀ σ' loc' h' adr' a' w', St cx w0 h0 n σ' loc' h' adr' a' w' → KpR cx ops loc1 adr1 h1 a1 w1 loc' adr' h' a' w' → K σ' loc' h' → Q .normal a' w') : ∀ (cs : List Nat) (lo : Nat), CutsOk ops cs lo → ∀ (listed : Array Bool) (σ : Env) (loc : Loc) (h : Hp) (adr : Nat → Nat) (a : Act) (w : World),
    listed.size = ops.size → (∀ i, i < ops.size → listed.getD i true = decide (i < lo)) → Clo ops listed →
    St cx w0 h0 n σ loc h adr a w → KpR cx ops loc1 adr1 h1 a1 w1 loc adr h a w → vcBlks cx ops.toList cs lo K σ loc h → wpAny cx.P .any ops Q (ops.size - lo) listed a w
  | [], lo, hc, listed, σ, loc, h, adr, a, w, hsz, hls, hcl, st, kp, H => by
    have hc : lo = ops.size := hc
    subst hc
    rw [Nat.sub_self]
    refine ⟨?_, hK _ _ _ _ _ _ st kp H⟩
    cases hr : Region.ready .any ops listed with
    | nil => rfl
    | cons i r =>
      exfalso
      have hm : i ∈ Region.ready .any ops listed := by rw [hr]; simp
      obtain ⟨h1, o, ho, _⟩ := mem_ready.1 hm
      have hlt : i < ops.size := (Array.getElem?_eq_some_iff.1 ho).1
      rw [hls i hlt, decide_eq_true hlt] at h1
      cases h1
  | hi :: cs, lo, hc, listed, σ, loc, h, adr, a, w, hsz, hls, hcl, st, kp, H => by
    obtain ⟨c1, c2, c3, c4⟩ := hc
    have hr : Real h := ⟨w, st.fr.sub⟩
    have hpe : pend lo hi listed = List.range' lo (hi - lo) := by
      unfold pend
      rw [List.filter_eq_self]
      intro j hj
      rw [List.mem_range'_1] at hj
      rw [hls j (by omega), decide_eq_false (by omega)]; rfl
    have hlen : ((ops.toList.drop lo).take (hi - lo)).length = hi - lo := by simp; omega
    have fin : ∀ m : Option (Hp → Prop), aftS m h → ((∃ S, m = some S) ∨ hi = lo + 1) → vcL cx m ops.toList (vcBlks cx ops.toList cs hi K) (List.range' lo (hi - lo)) σ loc h → wpAny cx.P .any ops Q (ops.size - lo) listed a w := by
      intro m hs hm HL
      have e : ops.size - lo = (hi - lo) + (ops.size - hi) := by omega
      rw [e]
      refine blk_run cok hd hok c1 c2 c3 hm (fun listed' σ' loc' h' adr' a' w' q1 q2 q3 q4 q5 q6 => blks_run cok hd hok hK cs hi c4 listed' σ' loc' h' adr' a' w' q1 q2 q3 q4 q5 q6)
        (hi - lo) listed σ loc h adr a w hsz (by rw [hpe]; simp) (fun i hi' => by rw [hls i (by omega), decide_eq_true hi']) (fun i h1 h2 => by rw [hls i h2, decide_eq_false (by omega)]) hcl st kp (fun _ => hs) (by rw [hpe]; exact HL)
    have L : ∀ S : Hp → Prop, S h → vcOps cx (some S) ops.toList ((ops.toList.drop lo).take (hi - lo)) (vcBlks cx ops.toList cs hi K) σ loc h → wpAny cx.P .any ops Q (ops.size - lo) listed a w := by
      intro S hs H
      have H1 := vcOps_L ((ops.toList.drop lo).take (hi - lo)) lo σ loc h ⟨_, (List.take_append_drop (hi - lo) _).symm⟩ st.own hs hr H
      rw [hlen] at H1
      exact fin (some S) hs (.inl ⟨S, rfl⟩) H1
    unfold vcBlks at H
    cases hb : (Nat.beq hi (lo + 1) || !((ops.toList.drop lo).take (hi - lo)).any (effB cx)) with
    | true =>
      rw [hb] at H
      dsimp only at H
      simp only [Bool.or_eq_true, Bool.not_eq_true'] at hb
      rcases hb with hb | hb
      · have e := Nat.eq_of_beq_eq_true hb
        subst e
        have e1 : lo + 1 - lo = 1 := by omega
        rw [e1] at H fin
        have hlt : lo < ops.size := by omega
        have e2 : (ops.toList.drop lo).take 1 = [ops[lo]] := by
          rw [List.drop_eq_getElem_cons (by simpa using hlt)]; simp
        rw [e2] at H
        refine fin none trivial (.inr rfl) ?_
        have hol : ops.toList[lo]? = some ops[lo] := by simp [hlt]
        show vcL cx none ops.toList _ [lo] σ loc h
        simp only [vcL, hol]
        exact vcOps_step H
      · exact L (fun g => g = h) rfl (vcOps_quiet _ hb σ loc h st.own H)
    | false =>
      rw [hb] at H
      obtain ⟨S, hs, H⟩ := H
      exact L S hs H

theorem region_run (cok : CxOk cx) {id : Nat} {ops : Array Oper} {draw : Bool} {an : Ann} {K : Kont} {Q : Exit → Act → World → Prop} (hd : ∀ o ∈ ops.toList, ∀ d, o.dst = some d → d < n) {σ : Env} {loc : Loc} {h : Hp} {adr : Nat → Nat} {a : Act} {w : World}
    (st : St cx w0 h0 n σ loc h adr a w) (H : vc cx (.region id ops draw) an K σ loc h)
    (hK : ∀ σ' loc' h' adr' a' w', St cx w0 h0 n σ' loc' h' adr' a' w' → KpR cx ops loc adr h a w loc' adr' h' a' w' → K .normal σ' loc' h' → Q .normal a' w') : (Code.region id ops draw).wp cx.P Q a w := by
  have hr : Real h := ⟨w, st.fr.sub⟩
  unfold vc at H
  cases draw with
  | false =>
    dsimp only at H
    refine wp_region (by rw [List.range_eq_range']; exact ops_run cok hd hK ops.toList 0 σ loc h adr a w rfl st .refl H)
  | true =>
    dsimp only at H
    cases hok : drawOk cx ops.toList <;> rw [hok] at H <;> try exact False.elim H
    dsimp only at H
    have key : ∀ cs, CutsOk ops cs 0 → vcBlks cx ops.toList cs 0 (K .normal) σ loc h → (Code.region id ops true).wp cx.P Q a w := by
      intro cs hc H
      refine wp_region_any cok.mixed ?_
      have := blks_run (Q := Q) cok hd hok hK cs 0 hc (Array.replicate ops.size false) σ loc h adr a { w with drawn := w.drawn + 1 } (by simp) (fun i hi => by simp [hi]) (fun i hi hl => by simp [hi] at hl) (st.drew _)
        ⟨fun _ _ => rfl, ⟨fun _ _ => rfl, fun _ hk => .inl ⟨rfl, hk⟩, Nat.le_refl _, fun _ _ hn _ => ⟨rfl, hn⟩⟩⟩ H
      rw [Nat.sub_zero] at this
      exact this
    cases he : ops.toList.any (effB cx) <;> rw [he] at H <;> dsimp only at H
    · by_cases h0 : ops.size = 0
      · have : ops.toList = [] := List.eq_nil_of_length_eq_zero (by rw [Array.length_toList]; exact h0)
        rw [this] at H
        exact key [] h0.symm H
      · refine key [ops.size] ⟨by omega, Nat.le_refl _, .inl rfl, rfl⟩ ?_
        unfold vcBlks
        have e : (ops.toList.drop 0).take (ops.size - 0) = ops.toList := by rw [List.drop_zero, Nat.sub_zero]; exact List.take_of_length_le (by simp)
        rw [e, he]
        simp only [Bool.not_false, Bool.or_true]
        exact H
    · refine key _ (cutsOk_of ?_) H
      rcases Nat.eq_zero_or_pos ops.size with h0 | h0
      · have : ops.toList = [] := List.eq_nil_of_length_eq_zero (by rw [Array.length_toList]; exact h0)
        rw [this] at he; cases he
      · exact h0
end

end Go.Proofs.YtkhfofnglkekoaaDoor
