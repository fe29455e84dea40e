/- Own verification-condition framework, part Za: where ways meet. Conditions: none. -/
import Derived.Test.YtkhfofnglkekoaaDoorVcZ
namespace Go.Proofs.YtkhfofnglkekoaaDoor

def Prd.mk : (l : List Sh) → (List Value → Hp → Prop) → Prd l
  | [], F => (show Hp → Prop from F [])
  | .int k :: r, F => (show Int → Prd r from fun n => Prd.mk r fun vs => F (.int k n :: vs))
  | .bool :: r, F => (show Bool → Prd r from fun n => Prd.mk r fun vs => F (.bool n :: vs))
  | .str :: r, F => (show ByteArray → Prd r from fun n => Prd.mk r fun vs => F (.string n :: vs))
  | .ptr :: r, F => (show Option Addr → Prd r from fun n => Prd.mk r fun vs => F (.pointer n :: vs))
  | .slice :: r, F => (show Option Addr → Nat → Nat → Prd r from fun a l c => Prd.mk r fun vs => F (.slice a l c :: vs))
  | .map :: r, F => (show Option Nat → Prd r from fun n => Prd.mk r fun vs => F (.map n :: vs))
  | .fn :: r, F => (show Fn → Array Value → Array Value → Prd r from fun f a b => Prd.mk r fun vs => F (.func f a b :: vs))

theorem Prd.from_mk : ∀ (l : List Sh) (F : List Value → Hp → Prop), Prd.from l (Prd.mk l F) F
  | [], F => fun _ h => h
  | .int k :: r, F => fun n => Prd.from_mk r fun vs => F (.int k n :: vs)
  | .bool :: r, F => fun n => Prd.from_mk r fun vs => F (.bool n :: vs)
  | .str :: r, F => fun n => Prd.from_mk r fun vs => F (.string n :: vs)
  | .ptr :: r, F => fun n => Prd.from_mk r fun vs => F (.pointer n :: vs)
  | .slice :: r, F => fun a l c => Prd.from_mk r fun vs => F (.slice a l c :: vs)
  | .map :: r, F => fun n => Prd.from_mk r fun vs => F (.map n :: vs)
  | .fn :: r, F => fun f a b => Prd.from_mk r fun vs => F (.func f a b :: vs)

theorem Prd.all_mk : ∀ (l : List Sh) (F : List Value → Hp → Prop), Prd.all l (Prd.mk l F) F
  | [], F => fun _ h => h
  | .int k :: r, F => fun n => Prd.all_mk r fun vs => F (.int k n :: vs)
  | .bool :: r, F => fun n => Prd.all_mk r fun vs => F (.bool n :: vs)
  | .str :: r, F => fun n => Prd.all_mk r fun vs => F (.string n :: vs)
  | .ptr :: r, F => fun n => Prd.all_mk r fun vs => F (.pointer n :: vs)
  | .slice :: r, F => fun a l c => Prd.all_mk r fun vs => F (.slice a l c :: vs)
  | .map :: r, F => fun n => Prd.all_mk r fun vs => F (.map n :: vs)
  | .fn :: r, F => fun f a b => Prd.all_mk r fun vs => F (.func f a b :: vs)

theorem Prd.app_all : ∀ (l : List Sh) (J : Prd l) (F : List Value → Hp → Prop) (sv : List SV) (h : Hp), Prd.all l J F → Prd.app l J sv h → ∃ vs : List Value, sv = vs.map .val ∧ vs.length = l.length ∧ F vs h
  | [], J, F, sv, h, ha, H => by
    cases sv with
    | nil => exact ⟨[], rfl, rfl, ha h H⟩
    | cons x r => exact False.elim H
  | k :: r, J, F, sv, h, ha, H => by
    cases sv with
    | nil => cases k <;> exact False.elim H
    | cons x t =>
      cases x with
      | any => cases k <;> exact False.elim H
      | loc a b => cases k <;> exact False.elim H
      | val v =>
        have fin : ∀ (J' : Prd r), Prd.all r J' (fun vs => F (v :: vs)) → Prd.app r J' t h → ∃ vs : List Value, (SV.val v :: t) = vs.map .val ∧ vs.length = (k :: r).length ∧ F vs h := by
          intro J' h1 h2
          obtain ⟨vs, e1, e2, e3⟩ := Prd.app_all r J' _ t h h1 h2
          exact ⟨v :: vs, by rw [e1]; rfl, by simp [e2], e3⟩
        cases k <;> cases v <;> try exact False.elim H
        case int.int k k' n =>
          simp only [Prd.app] at H
          by_cases hk : k = k'
          · subst hk
            simp only [decide_true] at H
            exact fin _ (ha n) H
          · simp only [hk, decide_false] at H
        case bool.bool b => exact fin _ (ha b) H
        case str.string b => exact fin _ (ha b) H
        case ptr.pointer b => exact fin _ (ha b) H
        case slice.slice a l c => exact fin _ (ha a l c) H
        case map.map b => exact fin _ (ha b) H
        case fn.func f a b => exact fin _ (ha f a b) H

theorem memN_mem : ∀ {l : List Nat} {i : Nat}, memN i l = true → i ∈ l
  | [], _, h => by cases h
  | k :: r, i, h => by
    unfold memN at h
    cases hb : Nat.beq i k with
    | true => rw [Nat.eq_of_beq_eq_true hb]; simp
    | false => rw [hb] at h; exact List.mem_cons_of_mem _ (memN_mem h)

theorem map_val_append {a b : List SV} {vs : List Value} (h : a ++ b = vs.map .val) : a = (vs.take a.length).map .val ∧ b = (vs.drop a.length).map .val := by
  have h1 := congrArg (List.take a.length) h
  have h2 := congrArg (List.drop a.length) h
  rw [List.take_append_length] at h1
  rw [List.drop_append_length] at h2
  exact ⟨by rw [h1, List.map_take, List.length_take]; simp [← h], by rw [h2, List.map_drop]⟩

theorem val_inj {a b : List Value} (h : a.map SV.val = b.map SV.val) : a = b := by
  induction a generalizing b with
  | nil => cases b with
    | nil => rfl
    | cons y b => simp at h
  | cons x a ih => cases b with
    | nil => simp at h
    | cons y b =>
      simp only [List.map_cons, List.cons.injEq, SV.val.injEq] at h
      rw [h.1, ih h.2]

def pickV (g : Bool) (l : List Sh) (vs : List Value) : Value := match g with | true => .agg (vs.take l.length).toArray | false => vs.headD undef

theorem slot_key {σ : Env} {d : Nat} {g : Bool} {l : List Sh} {vs : List Value} (h1 : slotGet σ (d, g, l) = (vs.take (slotGet σ (d, g, l)).length).map .val) :
    (slotGet σ (d, g, l)).length = l.length ∧ σ d = .val (pickV g l vs) := by
  have h1 := h1
  cases g with
  | true =>
    cases hs : σ d with
    | val v =>
      cases v with
      | agg cs =>
        simp only [slotGet, hs] at h1 ⊢
        cases hb : Nat.beq cs.toList.length l.length with
        | true =>
          rw [hb] at h1
          have hl := Nat.eq_of_beq_eq_true hb
          simp only [cond_true, List.length_map] at h1 ⊢
          refine ⟨hl, ?_⟩
          have := val_inj h1
          rw [hl] at this
          simp [pickV, ← this]
        | false =>
          rw [hb] at h1
          simp only [cond_false, List.length_singleton] at h1
          cases hv : vs.take 1 <;> rw [hv] at h1 <;> simp at h1
      | _ =>
        simp only [slotGet, hs, List.length_singleton] at h1
        cases hv : vs.take 1 <;> rw [hv] at h1 <;> simp at h1
    | _ =>
      simp only [slotGet, hs, List.length_singleton] at h1
      cases hv : vs.take 1 <;> rw [hv] at h1 <;> simp at h1
  | false =>
    match l with
    | [] =>
      simp only [slotGet, List.length_singleton] at h1
      cases hv : vs.take 1 <;> rw [hv] at h1 <;> simp at h1
    | [x] =>
      simp only [slotGet, List.length_singleton] at h1 ⊢
      refine ⟨trivial, ?_⟩
      cases hv : vs with
      | nil => rw [hv] at h1; simp at h1
      | cons a b => rw [hv] at h1; simpa [pickV] using h1
    | x :: y :: z =>
      simp only [slotGet, List.length_singleton] at h1
      cases hv : vs.take 1 <;> rw [hv] at h1 <;> simp at h1

theorem envS_spec {σ : Env} : ∀ (slots : List (Nat × Bool × List Sh)) (vs : List Value) (rest : List SV) (f : Env), slots.flatMap (slotGet σ) ++ rest = vs.map .val →
    (slots.flatMap (slotGet σ)).length = (slots.flatMap (·.2.2)).length ∧ ∀ i, (∃ v, envS slots vs f i = .val v ∧ σ i = .val v) ∨ envS slots vs f i = f i
  | [], vs, rest, f, h => ⟨rfl, fun i => .inr rfl⟩
  | (d, g, l) :: r, vs, rest, f, h => by
    rw [List.flatMap_cons, List.append_assoc] at h
    obtain ⟨h1, h2⟩ := map_val_append h
    have key := slot_key h1
    obtain ⟨k1, k2⟩ := key
    rw [k1] at h2
    obtain ⟨i1, i2⟩ := envS_spec r (vs.drop l.length) rest f h2
    refine ⟨by simp only [List.flatMap_cons, List.length_append, k1, i1], fun i => ?_⟩
    unfold envS
    cases hb : Nat.beq i d with
    | true =>
      have := Nat.eq_of_beq_eq_true hb
      subst this
      exact .inl ⟨pickV g l vs, by cases g <;> rfl, k2⟩
    | false => exact i2 i

theorem locS_spec {σ : Env} {loc : Loc} : ∀ (ls : List (Nat × TypeId × List Sh)) (vs : List Value) (f : Loc), ls.flatMap (locGet σ loc) = vs.map .val →
    (∀ p ∈ ls, σ p.1 = .loc p.1 0) ∧ ∀ k, (∃ x, locS ls vs f k = some x ∧ loc k = some x) ∨ locS ls vs f k = f k
  | [], vs, f, h => ⟨by simp, fun i => .inr rfl⟩
  | (d, t, l) :: r, vs, f, h => by
    rw [List.flatMap_cons] at h
    obtain ⟨h1, h2⟩ := map_val_append h
    have key : (locGet σ loc (d, t, l)).length = l.length ∧ σ d = .loc d 0 ∧ loc d = some (vs.take l.length, t) := by
      have no : locGet σ loc (d, t, l) ≠ [.any] := by
        intro e
        rw [e] at h1
        simp only [List.length_singleton] at h1
        cases hv : vs.take 1 <;> rw [hv] at h1 <;> simp at h1
      unfold locGet at no h1 ⊢
      cases hs : σ d with
      | val v => rw [hs] at no; exact absurd rfl no
      | any => rw [hs] at no; exact absurd rfl no
      | loc k o =>
        rw [hs] at no h1
        cases o with
        | succ o => exact absurd rfl no
        | zero =>
          cases hl : loc d with
          | none => rw [hl] at no; exact absurd rfl no
          | some p =>
            obtain ⟨c, t'⟩ := p
            rw [hl] at no h1
            dsimp only [] at no h1 ⊢
            cases hb : (Nat.beq k d && Nat.beq t' t && Nat.beq c.length l.length) with
            | false => simp only [hb] at no; exact absurd rfl no
            | true =>
              simp only [hb] at h1 ⊢
              simp only [Bool.and_eq_true] at hb
              obtain ⟨⟨b1, b2⟩, b3⟩ := hb
              have b1 := Nat.eq_of_beq_eq_true b1
              have b2 := Nat.eq_of_beq_eq_true b2
              have b3 := Nat.eq_of_beq_eq_true b3
              subst b1 b2
              simp only [cond_true, List.length_map] at h1 ⊢
              refine ⟨b3, trivial, ?_⟩
              have := val_inj h1
              rw [b3] at this
              rw [← this]
    obtain ⟨k1, k2, k3⟩ := key
    rw [k1] at h2
    obtain ⟨i1, i2⟩ := locS_spec r (vs.drop l.length) f h2
    refine ⟨fun p hp => ?_, fun i => ?_⟩
    · rcases List.mem_cons.1 hp with rfl | hp
      · exact k2
      · exact i1 p hp
    · unfold locS
      cases hb : Nat.beq i d with
      | true =>
        have := Nat.eq_of_beq_eq_true hb
        subst this
        exact .inl ⟨_, rfl, k3⟩
      | false => exact i2 i

section
variable {cx : Cx} {w0 : World} {h0 : Hp} {n : Nat}

/-- WHERE WAYS MEET: what is kept is as it was; what is named anew is as it is. -/
theorem St.join {c : Code} {m : Mod} {σ σ' : Env} {loc loc' : Loc} {h h' : Hp} {adr adr' : Nat → Nat} {a a' : Act} {w w' : World} (hm : m.ok cx c = true) (st : St cx w0 h0 n σ loc h adr a w) (st' : St cx w0 h0 n σ' loc' h' adr' a' w')
    (kp : Kp (fun i => wrC i c) (fun i => stC cx i c) loc adr h a w loc' adr' h' a' w') {vs : List Value} (hv : m.get σ' loc' = vs.map .val) :
    St cx w0 h0 n (m.env σ vs) (m.locv loc vs) h' adr' a' w' ∧ Kp (fun i => wrC i c) (fun i => stC cx i c) loc adr h a w (m.locv loc vs) adr' h' a' w' := by
  unfold Mod.ok at hm
  simp only [Bool.and_eq_true] at hm
  obtain ⟨⟨hk, hkl⟩, hlo⟩ := hm
  have hk : ∀ i ∈ m.keep, wrC i c = false ∧ ∀ k, cx.own i = some k → wrC k c = false := by
    intro i hi
    have := List.all_eq_true.1 hk i hi
    simp only [Bool.and_eq_true, Bool.not_eq_true'] at this
    refine ⟨this.1, fun k ho => ?_⟩
    have h2 := this.2
    rw [ho] at h2
    simpa using h2
  have hkl : ∀ k ∈ m.keepL, stC cx k c = false ∧ wrC k c = false := by
    intro k hi
    have := List.all_eq_true.1 hkl k hi
    simp only [Bool.and_eq_true, Bool.not_eq_true'] at this
    exact ⟨this.1, (hk k (memN_mem this.2)).1⟩
  unfold Mod.get at hv
  obtain ⟨e1, e2⟩ := envS_spec m.slots vs _ (fun i => cond (memN i m.keep) (σ i) (cond (memN i (m.locs.map (·.1))) (.loc i 0) .any)) hv
  have hv2 := (map_val_append hv).2
  rw [e1] at hv2
  obtain ⟨l1, l2⟩ := locS_spec m.locs _ (fun i => cond (memN i m.keepL) (loc i) none) hv2
  -- the locals
  have hL : ∀ k x, m.locv loc vs k = some x → loc' k = some x ∨ (loc k = some x ∧ adr' k = adr k ∧ w'.heap[adr k]? = w.heap[adr k]? ∧ h' (adr k) = none) := by
    intro k x hx
    rcases l2 k with ⟨y, h1, h2⟩ | h1
    · have : m.locv loc vs k = some y := h1
      rw [this] at hx
      cases hx
      exact .inl h2
    · have h1 : m.locv loc vs k = _ := h1
      rw [h1] at hx
      cases hb : memN k m.keepL with
      | false => rw [hb] at hx; cases hx
      | true =>
        rw [hb] at hx
        simp only [cond_true] at hx
        obtain ⟨s1, s2⟩ := hkl k (memN_mem hb)
        obtain ⟨c', t'⟩ := x
        obtain ⟨g1, g2, g3⟩ := st.lc k c' t' hx
        obtain ⟨q1, q2⟩ := kp.mem.hp (adr k) (Array.getElem?_eq_some_iff.1 g1).1 g2 fun k' hs hl he => by
          have := st.inj k k' (by rw [hx]; simp) hl he
          subst this
          rw [s1] at hs
          cases hs
        exact .inr ⟨hx, kp.mem.ad k s2, q1, q2⟩
  refine ⟨⟨st'.nod, st'.size, fun i => ?_, fun i k o hi => ?_, st'.fr, fun k c' t' hx => ?_, fun k l hx hy he => ?_⟩, ⟨kp.tm, ⟨kp.mem.ad, fun k hx => ?_, kp.mem.sz, kp.mem.hp⟩⟩⟩
  · rcases e2 i with ⟨v, h1, h2⟩ | h1
    · have := st'.tm i
      have h1 : m.env σ vs i = .val v := h1
      rw [h1]; rw [h2] at this; exact this
    · have h1 : m.env σ vs i = _ := h1
      rw [h1]
      cases hb : memN i m.keep with
      | true =>
        obtain ⟨s1, s2⟩ := hk i (memN_mem hb)
        have ht := st.tm i
        rw [← kp.tm i s1] at ht
        simp only [cond_true]
        cases hs : σ i with
        | val v => rw [hs] at ht; exact ht
        | any => trivial
        | loc k o =>
          rw [hs] at ht
          have := kp.mem.ad k (s2 k (st.own i k o hs))
          simp only [tmOk] at ht ⊢
          rw [this]; exact ht
      | false =>
        simp only [cond_false]
        cases hb2 : memN i (m.locs.map (·.1)) with
        | false => trivial
        | true =>
          obtain ⟨p, hp, rfl⟩ := List.mem_map.1 (memN_mem hb2)
          have := st'.tm p.1
          rw [l1 p hp] at this
          exact this
  · rcases e2 i with ⟨v, h1, h2⟩ | h1
    · have h1 : m.env σ vs i = .val v := h1
      rw [h1] at hi; cases hi
    · have h1 : m.env σ vs i = _ := h1
      rw [h1] at hi
      cases hb : memN i m.keep with
      | true => rw [hb] at hi; exact st.own i k o hi
      | false =>
        rw [hb] at hi
        simp only [cond_false] at hi
        cases hb2 : memN i (m.locs.map (·.1)) with
        | false => rw [hb2] at hi; cases hi
        | true =>
          rw [hb2] at hi
          cases hi
          obtain ⟨p, hp, rfl⟩ := List.mem_map.1 (memN_mem hb2)
          have := List.all_eq_true.1 hlo p hp
          cases ho : cx.own p.1 with
          | none => rw [ho] at this; cases this
          | some l => rw [ho] at this; rw [Nat.eq_of_beq_eq_true this]
  · rcases hL k _ hx with hy | ⟨hy, ha, q1, q2⟩
    · exact st'.lc k c' t' hy
    · obtain ⟨g1, g2, g3⟩ := st.lc k c' t' hy
      rw [ha]
      exact ⟨q1.trans g1, q2, g3⟩
  · have mixed : ∀ k l, loc' k ≠ none → (∃ x, loc l = some x) → adr' l = adr l → adr' k = adr' l → k = l := by
      intro k l hx ⟨x, hy⟩ hb he
      rcases kp.mem.adn k hx with ⟨q1, q2⟩ | q1
      · exact st.inj k l q2 (by rw [hy]; simp) (by rw [← q1, he, hb])
      · obtain ⟨c', t'⟩ := x
        have := (Array.getElem?_eq_some_iff.1 (st.lc l c' t' hy).1).1
        rw [he, hb] at q1
        omega
    cases hx' : m.locv loc vs k with
    | none => exact absurd hx' hx
    | some x =>
      cases hy' : m.locv loc vs l with
      | none => exact absurd hy' hy
      | some y =>
        rcases hL k x hx' with p1 | ⟨p1, p2, _, _⟩
        · rcases hL l y hy' with r1 | ⟨r1, r2, _, _⟩
          · exact st'.inj k l (by rw [p1]; simp) (by rw [r1]; simp) he
          · exact mixed k l (by rw [p1]; simp) ⟨y, r1⟩ r2 he
        · rcases hL l y hy' with r1 | ⟨r1, r2, _, _⟩
          · exact (mixed l k (by rw [r1]; simp) ⟨x, p1⟩ p2 he.symm).symm
          · exact st.inj k l (by rw [p1]; simp) (by rw [r1]; simp) (by rw [← p2, ← r2, he])
  · cases hx' : m.locv loc vs k with
    | none => exact absurd hx' hx
    | some x =>
      rcases hL k x hx' with p1 | ⟨p1, p2, _, _⟩
      · exact kp.mem.adn k (by rw [p1]; simp)
      · exact .inl ⟨p2, by rw [p1]; simp⟩
end

end Go.Proofs.YtkhfofnglkekoaaDoor
