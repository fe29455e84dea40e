/- Contracts, part T: package tree. Conditions: none. -/
import Derived.Test.YtkhfofnglkekoaaDoorLbU
import Derived.Test.YtkhfofnglkekoaaDoorVcFt
namespace Go.Proofs.YtkhfofnglkekoaaDoor

abbrev TAt (h : Hp) (p : Option Addr) (t : Tr) : Prop := TreeAt T_tree_Tree h p t
abbrev MAt (h : Hp) (p : Option Addr) (l : KV) : Prop := MapAt T_tree_Tree h p l

/-- A node's key and value. -/
def TNode (h : Hp) (p : Option Addr) (k v : ByteArray) : Prop :=
  ∃ b pl pr n m, p = some ⟨b, 0, none⟩ ∧ h b = some (.cells #[.string k, .string v, .pointer pl, .pointer pr, .int .i64 n, .int .i64 m] T_tree_Tree (0, 0))

theorem TNode.ext {h h' : Hp} (e : Ext h h') {p : Option Addr} {k v : ByteArray} (t : TNode h p k v) : TNode h' p k v := by
  obtain ⟨b, pl, pr, n, m, rfl, hb⟩ := t
  exact ⟨b, pl, pr, n, m, rfl, e _ _ hb⟩
theorem TreeAt.tnode {h : Hp} {p : Option Addr} {k v : ByteArray} {l r : Tr} (t : TAt h p (.node k v l r)) : TNode h p k v := by
  obtain ⟨b, pl, pr, rfl, hb, _⟩ := t
  exact ⟨b, pl, pr, _, _, rfl, hb⟩

theorem ok_Len {h : Hp} {p : Option Addr} {t : Tr} (ht : TAt h p t) : FnH Tryd.prog N_tree_Tree_Len #[.pointer p] h fun v h' => v = .int .i64 t.size ∧ h = h' := by
  refine F_tree_Tree_Len.calls p h _ ?_
  unfold F_tree_Tree_Len
  cases t with
  | nil => have : p = none := ht; subst this; exact bsT rfl ⟨rfl, rfl⟩
  | node k v l r =>
    obtain ⟨b, pl, pr, rfl, hb, _⟩ := ht
    exact bsF rfl (pS ⟨_, at_cellI hb rfl, rfl, rfl⟩)

theorem ok_High {h : Hp} {p : Option Addr} {t : Tr} (ht : TAt h p t) : FnH Tryd.prog N_tree_Tree_High #[.pointer p] h fun v h' => v = .int .i64 t.high ∧ h = h' := by
  refine F_tree_Tree_High.calls p h _ ?_
  unfold F_tree_Tree_High
  cases t with
  | nil => have : p = none := ht; subst this; exact bsT rfl ⟨rfl, rfl⟩
  | node k v l r =>
    obtain ⟨b, pl, pr, rfl, hb, _⟩ := ht
    exact bsF rfl (pS ⟨_, at_cellI hb rfl, rfl, rfl⟩)

theorem ok_with {h : Hp} {p pl pr : Option Addr} {k v : ByteArray} {l r : Tr} (hp : TNode h p k v) (hl : TAt h pl l) (hr : TAt h pr r) (hs : l.size + r.size < 4611686018427387904) :
    FnH Tryd.prog N_tree_Tree_with #[.pointer p, .pointer pl, .pointer pr] h fun v' h' => ∃ p', v' = .pointer p' ∧ Ext h h' ∧ TAt h' p' (.node k v l r) := by
  refine F_tree_Tree_with.calls p pl pr h _ ?_
  unfold F_tree_Tree_with
  obtain ⟨b, ql, qr, n, m, rfl, hb⟩ := hp
  have g1 := l.high_le
  have g2 := r.high_le
  refine ⟨fun g => Ext h g, Ext.refl, pS ⟨k, fun g e => at_cellI (e _ _ hb) rfl, pS ⟨v, fun g e => at_cellI (e _ _ hb) rfl, ?_⟩⟩⟩
  refine (ok_Len hl).mono ?_
  rintro _ _ ⟨rfl, rfl⟩
  refine ⟨_, rfl, Ext.refl, by unfold I64; omega, ?_⟩
  refine (ok_Len hr).mono ?_
  rintro _ _ ⟨rfl, rfl⟩
  refine ⟨_, rfl, Ext.refl, by unfold I64; omega, ?_⟩
  refine (ok_High hl).mono ?_
  rintro _ _ ⟨rfl, rfl⟩
  refine ⟨_, rfl, Ext.refl, ?_⟩
  refine (ok_High hr).mono ?_
  rintro _ _ ⟨rfl, rfl⟩
  have hm : imax (l.high : Int) r.high = ((max l.high r.high : Nat) : Int) := by
    unfold imax
    split <;> omega
  refine ⟨_, rfl, Ext.refl, ?_⟩
  rw [hm]
  refine ⟨by unfold I64; omega, fun b' hb' => ⟨_, rfl, Ext.new hb', b', pl, pr, rfl, ?_, hl.ext (Ext.new hb'), hr.ext (Ext.new hb')⟩⟩
  rw [Hp.set_same]
  simp only [Tr.size, Tr.high]
  congr 3

theorem ok_lean {h : Hp} {p : Option Addr} {k v : ByteArray} {l r : Tr} (ht : TAt h p (.node k v l r)) (hs : l.size + r.size < 4611686018427387904) :
    FnH Tryd.prog N_tree_Tree_lean #[.pointer p] h fun v' h' => v' = .int .i64 (Tr.node k v l r).lean ∧ h = h' := by
  refine F_tree_Tree_lean.calls p h _ ?_
  unfold F_tree_Tree_lean
  obtain ⟨b, pl, pr, rfl, hb, hl, hr⟩ := ht
  have g1 := l.high_le
  have g2 := r.high_le
  refine ⟨fun g => Ext h g, Ext.refl, pS ⟨pl, fun g e => at_cellI (e _ _ hb) rfl, ?_⟩⟩
  refine (ok_High hl).mono ?_
  rintro _ _ ⟨rfl, rfl⟩
  refine ⟨_, rfl, Ext.refl, pS ⟨pr, fun g e => at_cellI (e _ _ hb) rfl, ?_⟩⟩
  refine (ok_High hr).mono ?_
  rintro _ _ ⟨rfl, rfl⟩
  exact ⟨_, rfl, by unfold I64; omega, rfl, rfl⟩

theorem ok_turnL {h : Hp} {p : Option Addr} {k v k2 v2 : ByteArray} {l rl rr : Tr} (ht : TAt h p (.node k v l (.node k2 v2 rl rr))) (hs : l.size + (rl.size + rr.size) < 4611686018427387000) :
    FnH Tryd.prog N_tree_Tree_turnLeft #[.pointer p] h fun v' h' => ∃ p', v' = .pointer p' ∧ Ext h h' ∧ TAt h' p' (.node k2 v2 (.node k v l rl) rr) := by
  refine F_tree_Tree_turnLeft.calls p h _ ?_
  unfold F_tree_Tree_turnLeft
  have hn := ht.tnode
  obtain ⟨b, pl, pr, rfl, hb, hl, hr⟩ := ht
  have hn2 := hr.tnode
  obtain ⟨b2, pl2, pr2, rfl, hb2, hl2, hr2⟩ := hr
  refine ⟨fun g => Ext h g, Ext.refl, pS ⟨_, fun g e => at_cellI (e _ _ hb) rfl, pS ⟨_, fun g e => at_cellI (e _ _ hb) rfl, pS ⟨_, fun g e => at_cellI (e _ _ hb) rfl, pS ⟨_, fun g e => at_cellI (e _ _ hb2) rfl, ?_⟩⟩⟩⟩⟩
  refine (ok_with hn hl hl2 (by omega)).mono ?_
  rintro _ h1 ⟨p1, rfl, e1, t1⟩
  refine ⟨_, rfl, e1, pS ⟨_, fun g e => at_cellI (e _ _ hb) rfl, pS ⟨_, fun g e => at_cellI (e _ _ hb2) rfl, ?_⟩⟩⟩
  refine (ok_with (hn2.ext e1) t1 (hr2.ext e1) (by simp only [Tr.size]; omega)).mono ?_
  rintro _ h2 ⟨p2, rfl, e2, t2⟩
  exact ⟨_, rfl, _, rfl, e1.trans e2, t2⟩

theorem ok_turnR {h : Hp} {p : Option Addr} {k v k2 v2 : ByteArray} {r ll lr : Tr} (ht : TAt h p (.node k v (.node k2 v2 ll lr) r)) (hs : r.size + (ll.size + lr.size) < 4611686018427387000) :
    FnH Tryd.prog N_tree_Tree_turnRight #[.pointer p] h fun v' h' => ∃ p', v' = .pointer p' ∧ Ext h h' ∧ TAt h' p' (.node k2 v2 ll (.node k v lr r)) := by
  refine F_tree_Tree_turnRight.calls p h _ ?_
  unfold F_tree_Tree_turnRight
  have hn := ht.tnode
  obtain ⟨b, pl, pr, rfl, hb, hl, hr⟩ := ht
  have hn2 := hl.tnode
  obtain ⟨b2, pl2, pr2, rfl, hb2, hl2, hr2⟩ := hl
  refine ⟨fun g => Ext h g, Ext.refl, pS ⟨_, fun g e => at_cellI (e _ _ hb) rfl, pS ⟨_, fun g e => at_cellI (e _ _ hb) rfl, pS ⟨_, fun g e => at_cellI (e _ _ hb2) rfl, pS ⟨_, fun g e => at_cellI (e _ _ hb) rfl, pS ⟨_, fun g e => at_cellI (e _ _ hb2) rfl, pS ⟨_, fun g e => at_cellI (e _ _ hb) rfl, ?_⟩⟩⟩⟩⟩⟩⟩
  refine (ok_with hn hr2 hr (by omega)).mono ?_
  rintro _ h1 ⟨p1, rfl, e1, t1⟩
  refine ⟨_, rfl, e1, ?_⟩
  refine (ok_with (hn2.ext e1) (hl2.ext e1) t1 (by simp only [Tr.size]; omega)).mono ?_
  rintro _ h2 ⟨p2, rfl, e2, t2⟩
  exact ⟨_, rfl, _, rfl, e1.trans e2, t2⟩

theorem high0 {t : Tr} (h : 0 < t.high) : ∃ k v l r, t = .node k v l r := by
  cases t with
  | nil => simp [Tr.high] at h
  | node k v l r => exact ⟨k, v, l, r, rfl⟩

theorem ok_join {h : Hp} {p pl pr : Option Addr} {k v : ByteArray} {l r : Tr} (hp : TNode h p k v) (hl : TAt h pl l) (hr : TAt h pr r) (hs : l.size + r.size < 4611686018427380000) :
    FnH Tryd.prog N_tree_Tree_join #[.pointer p, .pointer pl, .pointer pr] h fun v' h' => ∃ p', v' = .pointer p' ∧ Ext h h' ∧ TAt h' p' (Tr.join k v l r) := by
  refine F_tree_Tree_join.calls p pl pr h _ ?_
  unfold F_tree_Tree_join
  refine (ok_with hp hl hr (by omega)).mono ?_
  rintro _ h1 ⟨p1, rfl, e1, t1⟩
  refine ⟨_, rfl, ?_⟩
  refine (ok_lean t1 (by omega)).mono ?_
  rintro _ _ ⟨rfl, rfl⟩
  refine ⟨_, rfl, ?_⟩
  unfold Tr.join
  have g1 := l.high_le
  have g2 := r.high_le
  refine bs (fun c1 => ?_) fun c1 => ?_
  · have c1 : (l.high : Int) - r.high > 1 := by simpa [Tr.lean] using c1
    rw [if_pos c1]
    obtain ⟨k2, v2, ll, lr, rfl⟩ := high0 (t := l) (by omega)
    simp only [Tr.size] at hs
    refine (ok_lean (hl.ext e1) (by omega)).mono ?_
    rintro _ _ ⟨rfl, rfl⟩
    refine ⟨_, rfl, bs (fun c2 => ?_) fun c2 => ?_⟩
    · have c2 : (Tr.node k2 v2 ll lr).lean < 0 := by simpa using c2
      rw [if_pos c2]
      obtain ⟨k3, v3, a, c, rfl⟩ := high0 (t := lr) (by simp only [Tr.lean] at c2; omega)
      simp only [Tr.size] at hs
      refine (ok_turnL (hl.ext e1) (by omega)).mono ?_
      rintro _ h2 ⟨p2, rfl, e2, t2⟩
      refine ⟨_, rfl, ?_⟩
      refine (ok_with (hp.ext (e1.trans e2)) t2 (hr.ext (e1.trans e2)) (by simp only [Tr.size]; omega)).mono ?_
      rintro _ h3 ⟨p3, rfl, e3, t3⟩
      refine ⟨_, rfl, ?_⟩
      refine (ok_turnR t3 (by simp only [Tr.size]; omega)).mono ?_
      rintro _ h4 ⟨p4, rfl, e4, t4⟩
      exact ⟨_, rfl, _, rfl, ((e1.trans e2).trans e3).trans e4, t4⟩
    · have c2 : ¬ (Tr.node k2 v2 ll lr).lean < 0 := by simpa using c2
      rw [if_neg c2]
      refine (ok_turnR t1 (by omega)).mono ?_
      rintro _ h4 ⟨p4, rfl, e4, t4⟩
      exact ⟨_, rfl, _, rfl, e1.trans e4, t4⟩
  · have c1 : ¬ (l.high : Int) - r.high > 1 := by simpa [Tr.lean] using c1
    rw [if_neg c1]
    refine bs (fun c3 => ?_) fun c3 => ?_
    · have c3 : (l.high : Int) - r.high < -1 := of_decide_eq_true c3
      rw [if_pos c3]
      obtain ⟨k2, v2, rl, rr, rfl⟩ := high0 (t := r) (by omega)
      simp only [Tr.size] at hs
      refine (ok_lean (hr.ext e1) (by omega)).mono ?_
      rintro _ _ ⟨rfl, rfl⟩
      refine ⟨_, rfl, bs (fun c2 => ?_) fun c2 => ?_⟩
      · have c2 : (Tr.node k2 v2 rl rr).lean > 0 := by simpa using c2
        rw [if_pos c2]
        obtain ⟨k3, v3, a, c, rfl⟩ := high0 (t := rl) (by simp only [Tr.lean] at c2; omega)
        simp only [Tr.size] at hs
        refine (ok_turnR (hr.ext e1) (by omega)).mono ?_
        rintro _ h2 ⟨p2, rfl, e2, t2⟩
        refine ⟨_, rfl, ?_⟩
        refine (ok_with (hp.ext (e1.trans e2)) (hl.ext (e1.trans e2)) t2 (by simp only [Tr.size]; omega)).mono ?_
        rintro _ h3 ⟨p3, rfl, e3, t3⟩
        refine ⟨_, rfl, ?_⟩
        refine (ok_turnL t3 (by simp only [Tr.size]; omega)).mono ?_
        rintro _ h4 ⟨p4, rfl, e4, t4⟩
        exact ⟨_, rfl, _, rfl, ((e1.trans e2).trans e3).trans e4, t4⟩
      · have c2 : ¬ (Tr.node k2 v2 rl rr).lean > 0 := by simpa using c2
        rw [if_neg c2]
        refine (ok_turnL t1 (by omega)).mono ?_
        rintro _ h4 ⟨p4, rfl, e4, t4⟩
        exact ⟨_, rfl, _, rfl, e1.trans e4, t4⟩
    · have c3 : ¬ (l.high : Int) - r.high < -1 := of_decide_eq_false c3
      rw [if_neg c3]
      exact ⟨_, rfl, e1, t1⟩

theorem ok_TGet {h : Hp} {p : Option Addr} {t : Tr} (ht : TAt h p t) (hr : Rise t.list) (k : ByteArray) :
    FnH Tryd.prog N_tree_Tree_Get #[.pointer p, .string k] h fun v h' => v = .tuple #[.string ((kget t.list k).getD E0), .bool (kget t.list k).isSome] ∧ h = h' := by
  refine F_tree_Tree_Get.calls p k h _ ?_
  unfold F_tree_Tree_Get
  refine ⟨fun m q g => ∃ s, TAt g q s ∧ m = s.size ∧ h = g ∧ kget t.list k = kget s.list k ∧ Rise s.list, ⟨_, t, ht, rfl, rfl, rfl, hr⟩, ?_⟩
  rintro m q g ⟨s, hs, rfl, rfl, hk, hr⟩
  rw [hk]
  cases s with
  | nil =>
    have : q = none := hs
    subst this
    exact bsF rfl (bsT rfl ⟨rfl, rfl⟩)
  | node a b l r =>
    obtain ⟨i, pl, pr, rfl, hb, hl, hr'⟩ := hs
    rw [Tr.list, rise_app, rise_cons] at hr
    obtain ⟨r1, ⟨r2, r3⟩, r4⟩ := hr
    refine bsT rfl (pS ⟨_, at_cellI hb rfl, bs (fun c => ?_) fun c => ?_⟩)
    · have c : ¬ a = k := by simpa using c
      refine pS ⟨_, at_cellI hb rfl, bs (fun d => ?_) fun d => ?_⟩
      · refine pS ⟨_, at_cellI hb rfl, l.size, by simp only [Tr.size]; omega, l, hl, rfl, rfl, ?_, r1⟩
        rw [Tr.list, kget_app]
        cases hx : kget l.list k with
        | some v => rfl
        | none =>
          simp only [kget, if_neg c]
          rw [kget_none]
          intro y hy e
          have h1 := r2 y hy
          rw [e] at h1
          have := lt_tr d h1
          rw [lt_irr] at this; cases this
      · have hgt : strLt a k = true := lt_tot (Ne.symm c) d
        refine pS ⟨_, at_cellI hb rfl, r.size, by simp only [Tr.size]; omega, r, hr', rfl, rfl, ?_, r3⟩
        rw [Tr.list, kget_app, kget_none (l := l.list)]
        · simp only [kget, if_neg c]
        · intro y hy e
          have h1 := r4 y hy (a, b) (by simp)
          rw [e] at h1
          have := lt_tr h1 hgt
          rw [lt_irr] at this; cases this
    · have c : a = k := by simpa using c
      subst c
      have : kget (Tr.node a b l r).list a = some b := by
        rw [Tr.list, kget_app, kget_none (l := l.list)]
        · simp [kget]
        · intro y hy e
          have h1 := r4 y hy (a, b) (by simp)
          rw [e, lt_irr] at h1; cases h1
      rw [this]
      exact bsF rfl (pS ⟨_, at_cellI hb rfl, rfl, rfl⟩)

theorem ok_TSet (k v : ByteArray) : ∀ (t : Tr) {h : Hp} {p : Option Addr}, TAt h p t → t.size < 4611686018427300000 →
    FnH Tryd.prog N_tree_Tree_Set #[.pointer p, .string k, .string v] h fun v' h' => ∃ p', v' = .pointer p' ∧ Ext h h' ∧ TAt h' p' (Tr.set k v t)
  | .nil, h, p, ht, _ => by
    refine F_tree_Tree_Set.calls p k v h _ ?_
    unfold F_tree_Tree_Set
    have : p = none := ht
    subst this
    exact bsT rfl fun b hb => ⟨_, rfl, Ext.new hb, b, none, none, rfl, Hp.set_same _ _ _, rfl, rfl⟩
  | .node a b l r, h, p, ht, hs => by
    refine F_tree_Tree_Set.calls p k v h _ ?_
    unfold F_tree_Tree_Set
    simp only [Tr.size] at hs
    have hn := ht.tnode
    obtain ⟨i, pl, pr, rfl, hb, hl, hr⟩ := ht
    unfold Tr.set
    have sz : ∀ t : Tr, (Tr.set k v t).size ≤ t.size + 1 := by
      intro t
      induction t with
      | nil => simp [Tr.set, Tr.size]
      | node a b l r ih1 ih2 =>
        unfold Tr.set
        split
        · rw [Tr.join_size]; simp only [Tr.size]; omega
        · split
          · rw [Tr.join_size]; simp only [Tr.size]; omega
          · simp only [Tr.size]; omega
    have s1 := sz l
    have s2 := sz r
    refine bsF rfl (pS ⟨_, at_cellI hb rfl, bs (fun c => ?_) fun c => ?_⟩)
    · rw [if_pos c]
      refine ⟨fun g => Ext h g, Ext.refl, pS ⟨_, fun g e => at_cellI (e _ _ hb) rfl, ?_⟩⟩
      refine (ok_TSet k v l hl (by omega)).mono ?_
      rintro _ h1 ⟨p1, rfl, e1, t1⟩
      refine ⟨_, rfl, e1, pS ⟨_, fun g e => at_cellI (e _ _ hb) rfl, ?_⟩⟩
      refine (ok_join (hn.ext e1) t1 (hr.ext e1) (by omega)).mono ?_
      rintro _ h2 ⟨p2, rfl, e2, t2⟩
      exact ⟨_, rfl, _, rfl, e1.trans e2, t2⟩
    · rw [if_neg (by simp [c])]
      refine pS ⟨_, at_cellI hb rfl, bs (fun d => ?_) fun d => ?_⟩
      · rw [if_pos d]
        refine ⟨fun g => Ext h g, Ext.refl, pS ⟨_, fun g e => at_cellI (e _ _ hb) rfl, pS ⟨_, fun g e => at_cellI (e _ _ hb) rfl, ?_⟩⟩⟩
        refine (ok_TSet k v r hr (by omega)).mono ?_
        rintro _ h1 ⟨p1, rfl, e1, t1⟩
        refine ⟨_, rfl, e1, ?_⟩
        refine (ok_join (hn.ext e1) (hl.ext e1) t1 (by omega)).mono ?_
        rintro _ h2 ⟨p2, rfl, e2, t2⟩
        exact ⟨_, rfl, _, rfl, e1.trans e2, t2⟩
      · rw [if_neg (by simpa using d)]
        refine pS ⟨_, at_cellI hb rfl, pS ⟨_, at_cellI hb rfl, pS ⟨_, at_cellI hb rfl, pS ⟨_, at_cellI hb rfl, fun b' hb' => ?_⟩⟩⟩⟩
        exact ⟨_, rfl, Ext.new hb', b', pl, pr, rfl, Hp.set_same _ _ _, hl.ext (Ext.new hb'), hr.ext (Ext.new hb')⟩

/-- A slice of pairs, out of parts of the heap that are not h0's. -/
def POut (h0 h : Hp) (a : Option Addr) (l c : Nat) (xs : KV) : Prop := xs.length = l ∧ Out h0 h T_api_Pair 3 a l c (pv xs)

theorem POut.nil {h0 h : Hp} : POut h0 h none 0 0 [] := ⟨rfl, Out.nil⟩
theorem POut.ext {h0 h h' : Hp} {a : Option Addr} {l c : Nat} {xs : KV} (e : Ext h h') (p : POut h0 h a l c xs) : POut h0 h' a l c xs := ⟨p.1, p.2.ext e⟩

theorem papp {h0 h : Hp} {a : Option Addr} {l c : Nat} {xs ys : KV} {x : Value} {n : Nat} {K : Option Addr → Nat → Nat → Hp → Prop} (ex : Ext h0 h) (ho : POut h0 h a l c xs) (hx : SrcIs h 3 x n (pv ys)) (hb : l + n < 1000000000)
    (hK : ∀ a' c' h', Ext h0 h' → POut h0 h' a' (l + n) c' (xs ++ ys) → Chg h0 a h h' → K a' (l + n) c' h') : HApp (tyOf T_api_Pair) T_api_Pair h a l c x K := by
  have hn : ys.length = n := by have := src_len hx; rw [pv_len] at this; omega
  refine happ (t := tyOf T_api_Pair) ex ho.2 hx (pv_leaf _) (by decide) rfl ?_ fun a' c' h' e o g => hK a' c' h' e ⟨by rw [List.length_append, ho.1, hn], by rw [pv_app]; exact o⟩ g
  have : (tyOf T_api_Pair).bytes = 40 := rfl
  rw [this]; omega

theorem src_new {h : Hp} {b e sz : Nat} {vs : List Value} {fr : Nat × Nat} (hb : h b = some (.cells vs.toArray e fr)) (hl : vs.length = sz) : SrcIs h sz (.slice (some ⟨b, 0, none⟩) 1 1) 1 vs :=
  ⟨rfl, by omega, .inr ⟨rfl, _, e, fr, hb, fun i hi => by simp⟩⟩

theorem ok_TAt_ (n : Nat) {h : Hp} {p : Option Addr} {t : Tr} (ht : TAt h p t) (hs : t.size < 4611686018427380000) (hn : n < t.list.length) :
    FnH Tryd.prog N_tree_Tree_At #[.pointer p, .int .i64 n] h fun v h' => v = .tuple #[.agg #[.string t.list[n].1, .string t.list[n].2, .bool false], .bool true] ∧ h = h' := by
  refine F_tree_Tree_At.calls p n h _ ?_
  unfold F_tree_Tree_At
  refine ⟨fun m q i s1 s2 b g => ∃ (s : Tr) (j : Nat), TAt g q s ∧ m = s.size ∧ h = g ∧ i = j ∧ s.size < 4611686018427380000 ∧ s.list[j]? = some t.list[n], ⟨_, t, n, ht, rfl, rfl, rfl, hs, by simp [hn]⟩, ?_⟩
  rintro m q i s1 s2 b g ⟨s, j, hq, rfl, rfl, rfl, hs, hj⟩
  cases s with
  | nil => simp [Tr.list] at hj
  | node k v l r =>
    obtain ⟨bb, pl, pr, rfl, hb, hl, hr⟩ := hq
    have hsz := Tr.size_list l
    have hjl : j < (Tr.node k v l r).size := by rw [Tr.size_list]; exact (List.getElem?_eq_some_iff.1 hj).1
    simp only [Tr.size] at hs hjl
    refine bsT rfl (pS ⟨_, at_cellI hb rfl, ?_⟩)
    refine (ok_Len hl).mono ?_
    rintro _ _ ⟨rfl, rfl⟩
    refine ⟨_, rfl, bs (fun c => ?_) fun c => bs (fun d => ?_) fun d => ?_⟩
    · have c : j < l.size := by simpa using c
      refine pS ⟨_, at_cellI hb rfl, l.size, by simp only [Tr.size]; omega, l, j, hl, rfl, rfl, rfl, by omega, ?_⟩
      rw [Tr.list, List.getElem?_append_left (by omega)] at hj
      exact hj
    · have c : ¬ j < l.size := by simpa using c
      have d : l.size < j := by simpa using d
      refine ⟨by unfold I64; omega, by unfold I64; omega, pS ⟨_, at_cellI hb rfl, r.size, by simp only [Tr.size]; omega, r, j - (l.size + 1), hr, rfl, rfl, by omega, by omega, ?_⟩⟩
      rw [Tr.list, List.getElem?_append_right (by omega)] at hj
      have : j - l.list.length = (j - (l.size + 1)) + 1 := by omega
      rw [this] at hj
      simpa using hj
    · have c : ¬ j < l.size := by simpa using c
      have d : ¬ l.size < j := by simpa using d
      have : j = l.list.length := by omega
      subst this
      rw [Tr.list, List.getElem?_append_right (Nat.le_refl _), Nat.sub_self] at hj
      have hj : (k, v) = t.list[n] := by simpa using hj
      refine pS ⟨_, at_cellI hb rfl, pS ⟨_, at_cellI hb rfl, ?_, rfl⟩⟩
      rw [← hj]

theorem cut_size (t : Tr) (k : ByteArray) (h : Rise t.list) : (t.cut k).size ≤ t.size := by
  rw [Tr.size_list, Tr.cut_list t k h, Tr.size_list]
  exact kcut_len _ _

theorem ok_TCut : ∀ (t : Tr) (k : ByteArray) {h : Hp} {p : Option Addr}, TAt h p t → Rise t.list → t.size < 4611686018427300000 →
    FnH Tryd.prog N_tree_Tree_Cut #[.pointer p, .string k] h fun v' h' => ∃ p', v' = .pointer p' ∧ Ext h h' ∧ TAt h' p' (t.cut k)
  | .nil, k, h, p, ht, hr, _ => by
    refine F_tree_Tree_Cut.calls p k h _ ?_
    unfold F_tree_Tree_Cut
    refine (ok_TGet ht hr k).mono ?_
    rintro _ _ ⟨rfl, rfl⟩
    exact ⟨_, _, rfl, bsT rfl ⟨_, rfl, Ext.refl, ht⟩⟩
  | .node a b l r, k, h, p, ht, hrise, hs => by
    refine F_tree_Tree_Cut.calls p k h _ ?_
    unfold F_tree_Tree_Cut
    refine (ok_TGet ht hrise k).mono ?_
    rintro _ _ ⟨rfl, rfl⟩
    refine ⟨_, _, rfl, ?_⟩
    unfold Tr.cut
    have hn := ht.tnode
    have ht0 := ht
    obtain ⟨i, pl, pr, rfl, hb, hl, hr⟩ := ht
    simp only [Tr.size] at hs
    have hrise' := hrise
    rw [Tr.list, rise_app, rise_cons] at hrise'
    obtain ⟨r1, ⟨_, r3⟩, _⟩ := hrise'
    have s1 := cut_size l k r1
    have s2 := cut_size r k r3
    by_cases hg : kget (Tr.node a b l r).list k = none
    · rw [if_pos hg, hg]
      exact bsT rfl ⟨_, rfl, Ext.refl, ht0⟩
    · rw [if_neg hg]
      refine bsF (by cases hx : kget (Tr.node a b l r).list k with | none => exact absurd hx hg | some v => rfl) (pS ⟨_, at_cellI hb rfl, bs (fun c => ?_) fun c => ?_⟩)
      · rw [if_pos c]
        refine ⟨fun g => Ext h g, Ext.refl, pS ⟨_, fun g e => at_cellI (e _ _ hb) rfl, ?_⟩⟩
        refine (ok_TCut l k hl r1 (by omega)).mono ?_
        rintro _ h1 ⟨p1, rfl, e1, t1⟩
        refine ⟨_, rfl, e1, pS ⟨_, fun g e => at_cellI (e _ _ hb) rfl, ?_⟩⟩
        refine (ok_join (hn.ext e1) t1 (hr.ext e1) (by omega)).mono ?_
        rintro _ h2 ⟨p2, rfl, e2, t2⟩
        exact ⟨_, rfl, _, rfl, e1.trans e2, t2⟩
      · rw [if_neg (by simp [c])]
        refine pS ⟨_, at_cellI hb rfl, bs (fun d => ?_) fun d => ?_⟩
        · rw [if_pos d]
          refine ⟨fun g => Ext h g, Ext.refl, pS ⟨_, fun g e => at_cellI (e _ _ hb) rfl, pS ⟨_, fun g e => at_cellI (e _ _ hb) rfl, ?_⟩⟩⟩
          refine (ok_TCut r k hr r3 (by omega)).mono ?_
          rintro _ h1 ⟨p1, rfl, e1, t1⟩
          refine ⟨_, rfl, e1, ?_⟩
          refine (ok_join (hn.ext e1) (hl.ext e1) t1 (by omega)).mono ?_
          rintro _ h2 ⟨p2, rfl, e2, t2⟩
          exact ⟨_, rfl, _, rfl, e1.trans e2, t2⟩
        · rw [if_neg (by simpa using d)]
          refine pS ⟨_, at_cellI hb rfl, bs (fun c1 => ?_) fun c1 => ?_⟩
          · have : l = .nil := (hl.nil_iff).1 c1
            subst this
            rw [if_pos (show Tr.nil.isNil = true from rfl)]
            exact pS ⟨_, at_cellI hb rfl, _, rfl, Ext.refl, hr⟩
          · have : l ≠ .nil := fun e => by have := (hl.nil_iff).2 e; rw [c1] at this; cases this
            rw [if_neg (by cases l with | nil => exact absurd rfl this | node => simp [Tr.isNil])]
            refine pS ⟨_, at_cellI hb rfl, bs (fun c2 => ?_) fun c2 => ?_⟩
            · have : r = .nil := (hr.nil_iff).1 c2
              subst this
              rw [if_pos (show Tr.nil.isNil = true from rfl)]
              exact pS ⟨_, at_cellI hb rfl, _, rfl, Ext.refl, hl⟩
            · have hrn : r ≠ .nil := fun e => by have := (hr.nil_iff).2 e; rw [c2] at this; cases this
              rw [if_neg (by cases r with | nil => exact absurd rfl hrn | node => simp [Tr.isNil])]
              refine pS ⟨_, at_cellI hb rfl, fun m q g => ∃ s, TAt g q s ∧ m = s.size ∧ h = g ∧ s ≠ .nil ∧ s.first = r.first, ⟨_, r, hr, rfl, rfl, hrn, rfl⟩, ?_⟩
              rintro m q g ⟨s, hq, rfl, rfl, hsn, hf⟩
              cases s with
              | nil => exact absurd rfl hsn
              | node a1 b1 l1 r1' =>
                have hqn := hq.tnode
                obtain ⟨j, ql, qr, rfl, hb2, hl2, hr2⟩ := hq
                refine pS ⟨_, at_cellI hb2 rfl, bs (fun c3 => ?_) fun c3 => ?_⟩
                · have : l1 ≠ .nil := fun e => by have := (hl2.nil_iff).2 e; rw [this] at c3; cases c3
                  refine pS ⟨_, at_cellI hb2 rfl, l1.size, by simp only [Tr.size]; omega, l1, hl2, rfl, rfl, this, ?_⟩
                  cases l1 with
                  | nil => exact absurd rfl this
                  | node => exact hf
                · have hl1 : l1 = .nil := (hl2.nil_iff).1 (by simpa using c3)
                  subst hl1
                  have hf : (a1, b1) = r.first := hf
                  refine ⟨fun g => Ext h g, Ext.refl, pS ⟨_, fun g e => at_cellI (e _ _ hb) rfl, pS ⟨_, fun g e => at_cellI (e _ _ hb) rfl, pS ⟨_, fun g e => at_cellI (e _ _ hb2) rfl, ?_⟩⟩⟩⟩
                  have s3 := cut_size r a1 r3
                  refine (ok_TCut r a1 hr r3 (by omega)).mono ?_
                  rintro _ h1 ⟨p1, rfl, e1, t1⟩
                  refine ⟨_, rfl, e1, ?_⟩
                  refine (ok_join (hqn.ext e1) (hl.ext e1) t1 (by omega)).mono ?_
                  rintro _ h2 ⟨p2, rfl, e2, t2⟩
                  rw [← hf]
                  exact ⟨_, rfl, _, rfl, e1.trans e2, t2⟩

theorem krange_app (x y : KV) (a b : ByteArray) : krange (x ++ y) a b = krange x a b ++ krange y a b := List.filter_append ..
theorem krange_len (x : KV) (a b : ByteArray) : (krange x a b).length ≤ x.length := List.length_filter_le _ _

theorem ok_TRange (a b : ByteArray) : ∀ (t : Tr) {h : Hp} {p : Option Addr}, TAt h p t → Rise t.list → t.size < 400000000 →
    FnH Tryd.prog N_tree_Tree_Range #[.pointer p, .string a, .string b] h fun v' h' => ∃ q l c, v' = .slice q l c ∧ Ext h h' ∧ POut h h' q l c (krange t.list a b)
  | .nil, h, p, ht, _, _ => by
    refine F_tree_Tree_Range.calls p a b h _ ?_
    unfold F_tree_Tree_Range
    have : p = none := ht
    subst this
    exact bsT rfl ⟨_, _, _, rfl, Ext.refl, POut.nil⟩
  | .node k v l r, h, p, ht, hrise, hs => by
    refine F_tree_Tree_Range.calls p a b h _ ?_
    unfold F_tree_Tree_Range
    simp only [Tr.size] at hs
    have hrise' := hrise
    rw [Tr.list, rise_app, rise_cons] at hrise'
    obtain ⟨r1, ⟨r2, r3⟩, r4⟩ := hrise'
    obtain ⟨i, pl, pr, rfl, hb, hl, hr⟩ := ht
    have sl := Tr.size_list l
    have sr := Tr.size_list r
    have n1 := krange_len l.list a b
    have n2 := krange_len r.list a b
    have hlist : krange (Tr.node k v l r).list a b = krange l.list a b ++ (krange [(k, v)] a b ++ krange r.list a b) := by
      rw [Tr.list, krange_app]
      congr 1
      exact krange_app [(k, v)] r.list a b
    rw [hlist]
    have n3 := krange_len [(k, v)] a b
    simp only [List.length_singleton] at n3
    refine bsF rfl fun J6 hJ6 => ?_
    -- behind the left side
    have k6 : ∀ (q : Option Addr) (n c : Nat) (h5 : Hp), Ext h h5 → POut h h5 q n c (krange l.list a b) → J6 q n c h5 := by
      intro q n c h5 e5 o5
      refine hJ6 q n c h5 fun J9 hJ9 => ?_
      have k9 : ∀ (q : Option Addr) (n c : Nat) (h8 : Hp), Ext h h8 → POut h h8 q n c (krange l.list a b ++ krange [(k, v)] a b) → J9 q n c h8 := by
        intro q n c h8 e8 o8
        refine hJ9 q n c h8 (pS ⟨_, at_cellI (e8 _ _ hb) rfl, bs (fun d => ?_) fun d => ?_⟩)
        · refine pS ⟨_, at_cellI (e8 _ _ hb) rfl, ?_⟩
          refine (ok_TRange a b r (hr.ext e8) r3 (by omega)).mono ?_
          rintro _ h1 ⟨q1, l1, c1, rfl, e1, o1⟩
          refine ⟨_, _, _, rfl, papp (e8.trans e1) (o8.ext e1) o1.2.1.src ?_ fun a' c' h' e' o' _ => ⟨_, _, _, rfl, e', ?_⟩⟩
          · have := o8.1; have := o1.1; simp only [List.length_append] at *; omega
          · rw [← List.append_assoc]; exact o'
        · have hnone : krange r.list a b = [] := by
            unfold krange
            rw [List.filter_eq_nil_iff]
            intro y hy h1
            simp only [Bool.and_eq_true] at h1
            have := lt_tr (r2 y hy) h1.2
            rw [d] at this; cases this
          rw [hnone, List.append_nil]
          exact ⟨_, _, _, rfl, e8, o8⟩
      have skip : krange [(k, v)] a b = [] → J9 q n c h5 := fun e => k9 q n c h5 e5 (by rw [e, List.append_nil]; exact o5)
      refine pS ⟨_, at_cellI (e5 _ _ hb) rfl, bs (fun d1 => ?_) fun d1 => ?_⟩
      · refine pS ⟨_, at_cellI (e5 _ _ hb) rfl, bs (fun d2 => ?_) fun d2 => ?_⟩
        · have hone : krange [(k, v)] a b = [(k, v)] := by
            have : strLt k a = false := by
              simp only [Bool.or_eq_true, decide_eq_true_eq] at d1
              rcases d1 with d1 | d1
              · exact lt_asym d1
              · rw [d1]; exact lt_irr k
            simp [krange, this, d2]
          refine ⟨fun g => Ext h g, e5, pS ⟨_, fun g e => at_cellI (e _ _ hb) rfl, pS ⟨_, fun g e => at_cellI (e _ _ hb) rfl, fun b' hb' => ⟨e5.trans (Ext.new hb'), ?_⟩⟩⟩⟩
          refine papp (ys := [(k, v)]) (e5.trans (Ext.new hb')) (o5.ext (Ext.new hb')) (src_new (Hp.set_same _ _ _) rfl) (by have := o5.1; omega) fun a' c' h' e' o' _ => k9 _ _ _ _ e' (by rw [hone]; exact o')
        · exact skip (by simp [krange, d2])
      · exact skip (by
          simp only [Bool.or_eq_false_iff, decide_eq_false_iff_not] at d1
          have : strLt k a = true := lt_tot d1.2 d1.1
          simp [krange, this])
    refine pS ⟨_, at_cellI hb rfl, bs (fun d => ?_) fun d => ?_⟩
    · refine pS ⟨_, at_cellI hb rfl, ?_⟩
      refine (ok_TRange a b l hl r1 (by omega)).mono ?_
      rintro _ h1 ⟨q1, l1, c1, rfl, e1, o1⟩
      exact ⟨_, _, _, rfl, k6 _ _ _ _ e1 o1⟩
    · have hnone : krange l.list a b = [] := by
        unfold krange
        rw [List.filter_eq_nil_iff]
        intro y hy h1
        simp only [Bool.and_eq_true, Bool.not_eq_true'] at h1
        have h2 := r4 y hy (k, v) (by simp)
        by_cases e : a = k
        · subst e; rw [h2] at h1; cases h1.1
        · have := lt_tr h2 (lt_tot e d)
          rw [this] at h1; cases h1.1
      exact k6 _ _ _ _ Ext.refl (by rw [hnone]; exact POut.nil)

/-! With rows. -/
theorem MapAt.nil {h : Hp} : MAt h none [] := ⟨.nil, rfl, rfl, rise_nil⟩
theorem ok_MLen {h : Hp} {p : Option Addr} {l : KV} (ht : MAt h p l) : FnH Tryd.prog N_tree_Tree_Len #[.pointer p] h fun v h' => v = .int .i64 l.length ∧ h = h' := by
  obtain ⟨t, ht, rfl, _⟩ := ht
  rw [← Tr.size_list]
  exact ok_Len ht
theorem ok_MGet {h : Hp} {p : Option Addr} {l : KV} (ht : MAt h p l) (k : ByteArray) :
    FnH Tryd.prog N_tree_Tree_Get #[.pointer p, .string k] h fun v h' => v = .tuple #[.string ((kget l k).getD E0), .bool (kget l k).isSome] ∧ h = h' := by
  obtain ⟨t, ht, rfl, hr⟩ := ht
  exact ok_TGet ht hr k
theorem ok_MSet {h : Hp} {p : Option Addr} {l : KV} (ht : MAt h p l) (k v : ByteArray) (hn : l.length < 100000000) :
    FnH Tryd.prog N_tree_Tree_Set #[.pointer p, .string k, .string v] h fun v' h' => ∃ p', v' = .pointer p' ∧ Ext h h' ∧ MAt h' p' (kset l k v) := by
  obtain ⟨t, ht, rfl, hr⟩ := ht
  refine (ok_TSet k v t ht (by rw [Tr.size_list]; omega)).mono ?_
  rintro _ h' ⟨p', rfl, e, ht'⟩
  exact ⟨p', rfl, e, _, ht', Tr.set_list k v t hr, kset_rise hr k v⟩
theorem ok_MCut {h : Hp} {p : Option Addr} {l : KV} (ht : MAt h p l) (k : ByteArray) (hn : l.length < 100000000) :
    FnH Tryd.prog N_tree_Tree_Cut #[.pointer p, .string k] h fun v' h' => ∃ p', v' = .pointer p' ∧ Ext h h' ∧ MAt h' p' (kcut l k) := by
  obtain ⟨t, ht, rfl, hr⟩ := ht
  refine (ok_TCut t k ht hr (by rw [Tr.size_list]; omega)).mono ?_
  rintro _ h' ⟨p', rfl, e, ht'⟩
  exact ⟨p', rfl, e, _, ht', Tr.cut_list t k hr, kcut_rise hr k⟩
theorem ok_MRange {h : Hp} {p : Option Addr} {l : KV} (ht : MAt h p l) (a b : ByteArray) (hn : l.length < 100000000) :
    FnH Tryd.prog N_tree_Tree_Range #[.pointer p, .string a, .string b] h fun v' h' => ∃ q n c, v' = .slice q n c ∧ Ext h h' ∧ POut h h' q n c (krange l a b) := by
  obtain ⟨t, ht, rfl, hr⟩ := ht
  exact ok_TRange a b t ht hr (by rw [Tr.size_list]; omega)
theorem ok_MAt {h : Hp} {p : Option Addr} {l : KV} (ht : MAt h p l) (n : Nat) (hn : n < l.length) (hl : l.length < 100000000) :
    FnH Tryd.prog N_tree_Tree_At #[.pointer p, .int .i64 n] h fun v h' => v = .tuple #[.agg #[.string l[n].1, .string l[n].2, .bool false], .bool true] ∧ h = h' := by
  obtain ⟨t, ht, rfl, hr⟩ := ht
  exact ok_TAt_ n ht (by rw [Tr.size_list]; omega) hn

end Go.Proofs.YtkhfofnglkekoaaDoor
