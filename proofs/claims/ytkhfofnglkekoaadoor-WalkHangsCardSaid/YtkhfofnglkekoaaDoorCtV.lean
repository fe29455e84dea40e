/- Contracts, part V: package view. Conditions: none. -/
import Derived.Test.YtkhfofnglkekoaaDoorCtT
namespace Go.Proofs.YtkhfofnglkekoaaDoor

/-- What a view is: its base, what is shown, what was written, what was read; how many ranges, and where they stand. -/
structure VS where
  base : KV
  shown : KV
  writes : KV
  reads : KV
  nr : Nat
  rb : Option Nat

/-- None of it is greater than so much. -/
structure VS.le (V : VS) (n : Nat) : Prop where
  base : V.base.length ≤ n
  shown : V.shown.length ≤ n
  writes : V.writes.length ≤ n
  reads : V.reads.length ≤ n
  nr : V.nr ≤ n

theorem VS.le.mono {V : VS} {n m : Nat} (h : V.le n) (hm : n ≤ m) : V.le m := ⟨Nat.le_trans h.base hm, Nat.le_trans h.shown hm, Nat.le_trans h.writes hm, Nat.le_trans h.reads hm, Nat.le_trans h.nr hm⟩

/-- Pairs of texts as cells. -/
def tv2 (l : KV) : List Value := l.flatMap fun p => [.string p.1, .string p.2]
theorem tv2_len (l : KV) : (tv2 l).length = l.length * 2 := by
  induction l with
  | nil => rfl
  | cons a l ih => simp [tv2] at ih ⊢; omega
theorem tv2_leaf (l : KV) : (tv2 l).all leafB = true := by
  induction l with
  | nil => rfl
  | cons a l ih =>
    simp only [tv2, List.flatMap_cons, List.all_append, Bool.and_eq_true]
    exact ⟨rfl, ih⟩

/-- The ranges that were read: a slice of the view's own. -/
def RAt (h : Hp) (a : Option Addr) (l c : Nat) (rb : Option Nat) : Prop :=
  ∃ xs : KV, xs.length = l ∧ Sl h T_a2_string 2 a l c (tv2 xs) ∧ ((c * 2 = 0 ∧ rb = none) ∨ ∃ b o cs, a = some ⟨b, o, none⟩ ∧ rb = some b ∧ h b = some (.cells cs T_a2_string (0, 0)) ∧ o + c * 2 ≤ cs.size)

def VAt (h : Hp) (v : Nat) (V : VS) : Prop :=
  ∃ p1 p2 p3 p4 ra rc, h v = some (.cells #[.pointer p1, .pointer p2, .pointer p3, .pointer p4, .slice ra V.nr rc] T_view_View (0, 0)) ∧
    MAt h p1 V.base ∧ MAt h p2 V.shown ∧ MAt h p3 V.writes ∧ MAt h p4 V.reads ∧ RAt h ra V.nr rc V.rb

/-- What a view's functions leave as it was: all but the view, and its ranges. -/
structure VK (v : Nat) (rb rb' : Option Nat) (h h' : Hp) : Prop where
  keep : ∀ b o, h b = some o → b ≠ v → rb ≠ some b → h' b = some o
  fresh : ∀ b, rb' = some b → rb = some b ∨ h b = none
  dom : ∀ b, h b ≠ none → h' b ≠ none

theorem VK.ext {v : Nat} {rb : Option Nat} {h h' : Hp} (e : Ext h h') : VK v rb rb h h' := ⟨fun b o hb _ _ => e b o hb, fun _ hb => .inl hb, fun _ hb hn => hb (e.none hn)⟩
theorem VK.refl {v : Nat} {rb : Option Nat} {h : Hp} : VK v rb rb h h := .ext Ext.refl
theorem VK.trans {v : Nat} {r0 r1 r2 : Option Nat} {h h1 h2 : Hp} (hv : h1 v ≠ none) (x : VK v r0 r1 h h1) (y : VK v r1 r2 h1 h2) : VK v r0 r2 h h2 := by
  refine ⟨fun b o hb hn hr => ?_, fun b hb => ?_, fun b hb => y.dom b (x.dom b hb)⟩
  · refine y.keep b o (x.keep b o hb hn hr) hn fun e => ?_
    rcases x.fresh b e with e | e
    · exact hr e
    · rw [hb] at e; cases e
  · rcases y.fresh b hb with e | e
    · exact x.fresh b e
    · by_cases hr : r0 = some b
      · exact .inl hr
      · right
        cases hx : h b with
        | none => rfl
        | some o =>
          by_cases hn : b = v
          · subst hn; exact absurd e hv
          · rw [x.keep b o hx hn hr] at e; cases e

theorem ke_set {ts : List Nat} {h : Hp} {b e : Nat} {cs : Array Value} {fr : Nat × Nat} {o : Obj} (hb : h b = some (.cells cs e fr)) (m : memN e ts = true) : Ke ts h (h.set b o) := by
  intro i x hx mx
  by_cases hi : i = b
  · subst hi; rw [hb] at hx; cases hx; simp [mutO, m] at mx
  · rw [Hp.set_ne _ _ hi]; exact hx

theorem RAt.ke {ts : List Nat} {h h' : Hp} {a : Option Addr} {l c : Nat} {rb : Option Nat} (k : Ke ts h h') (m : memN T_a2_string ts = false) (r : RAt h a l c rb) : RAt h' a l c rb := by
  obtain ⟨xs, h1, h2, h3⟩ := r
  refine ⟨xs, h1, h2.ke k m, h3.imp id ?_⟩
  rintro ⟨b, o, cs, e1, e2, e3, e4⟩
  exact ⟨b, o, cs, e1, e2, k _ _ e3 m, e4⟩
theorem RAt.ext {h h' : Hp} {a : Option Addr} {l c : Nat} {rb : Option Nat} (k : Ext h h') (r : RAt h a l c rb) : RAt h' a l c rb := r.ke (ts := []) k.ke rfl

theorem VAt.ext {h h' : Hp} {v : Nat} {V : VS} (e : Ext h h') (x : VAt h v V) : VAt h' v V := by
  obtain ⟨p1, p2, p3, p4, ra, rc, hv, m1, m2, m3, m4, r⟩ := x
  exact ⟨p1, p2, p3, p4, ra, rc, e _ _ hv, m1.ext e, m2.ext e, m3.ext e, m4.ext e, r.ext e⟩
theorem VAt.ne {h : Hp} {v : Nat} {V : VS} (x : VAt h v V) : h v ≠ none := by
  obtain ⟨p1, p2, p3, p4, ra, rc, hv, _⟩ := x
  rw [hv]; simp

/-- Another view's blocks, and all of other types, stay. -/
theorem VK.ke {v : Nat} {V : VS} {rb' : Option Nat} {h h' : Hp} (x : VAt h v V) (k : VK v V.rb rb' h h') : Ke [T_view_View, T_a2_string] h h' := by
  intro b o hb m
  obtain ⟨p1, p2, p3, p4, ra, rc, hv, _, _, _, _, xs, _, _, r⟩ := x
  refine k.keep b o hb (fun e => ?_) fun e => ?_
  · subst e
    rw [hv] at hb; cases hb
    exact absurd (show true = false from m) (by decide)
  · rcases r with r | ⟨b', o', cs, _, e2, e3, _⟩
    · rw [r.2] at e; cases e
    · rw [e2] at e; cases e
      rw [e3] at hb; cases hb
      exact absurd (show true = false from m) (by decide)

theorem ok_VNew {h : Hp} {p : Option Addr} {l : KV} (hp : MAt h p l) : FnH Tryd.prog N_view_New #[.pointer p] h fun r h' => ∃ v, r = .pointer (some ⟨v, 0, none⟩) ∧ h v = none ∧ Ext h h' ∧ VAt h' v ⟨l, l, [], [], 0, none⟩ := by
  refine F_view_New.calls p h _ ?_
  unfold F_view_New
  intro b hb
  have e := Ext.new (h := h) (o := .cells #[.pointer p, .pointer p, .pointer none, .pointer none, .slice none 0 0] T_view_View) hb
  exact ⟨b, rfl, hb, e, p, p, none, none, none, 0, Hp.set_same _ _ _, hp.ext e, hp.ext e, MapAt.nil, MapAt.nil, [], rfl, Sl.nil, .inl ⟨rfl, rfl⟩⟩

/-- One field of a view is turned. -/
theorem VK.turn {v : Nat} {rb : Option Nat} {h h' : Hp} {o : Obj} (e : Ext h h') : VK v rb rb h (h'.set v o) :=
  ⟨fun b x hb hn _ => by rw [Hp.set_ne _ _ hn]; exact e _ _ hb, fun _ hb => .inl hb, fun b hb => by
    by_cases hn : b = v
    · rw [hn, Hp.set_same]; simp
    · rw [Hp.set_ne _ _ hn]; exact fun h0 => hb (e.none h0)⟩

theorem ok_VGet {h : Hp} {v : Nat} {V : VS} (hv : VAt h v V) (k : ByteArray) {n : Nat} (hn : V.le n) (hs : n < 100000000) :
    FnH Tryd.prog N_view_View_Get #[.pointer (some ⟨v, 0, none⟩), .string k] h fun r h' => r = .tuple #[.string ((kget V.shown k).getD E0), .bool (kget V.shown k).isSome] ∧ VK v V.rb V.rb h h' ∧ VAt h' v { V with reads := kset V.reads k E0 } := by
  refine F_view_View_Get.calls _ k h _ ?_
  unfold F_view_View_Get
  obtain ⟨p1, p2, p3, p4, ra, rc, hb, m1, m2, m3, m4, r⟩ := hv
  have := hn.reads
  refine bsF rfl (pS ⟨_, at_cellI hb rfl, ?_⟩)
  refine (ok_MSet m4 k E0 (by omega)).mono ?_
  rintro _ h1 ⟨p5, rfl, e1, m5⟩
  refine ⟨_, rfl, pS ?_⟩
  rw [add_at]
  refine hst_at (e1 _ _ hb) (by simp) (pS ?_)
  have k1 : Ke [T_view_View] h1 (h1.set v (.cells #[.pointer p1, .pointer p2, .pointer p3, .pointer p5, .slice ra V.nr rc] T_view_View (0, 0))) := ke_set (e1 _ _ hb) rfl
  refine ⟨_, at_cellI (Hp.set_same _ _ _) rfl, ?_⟩
  refine (ok_MGet (MapAt.ke k1 rfl (m2.ext e1)) k).mono ?_
  rintro _ _ ⟨rfl, rfl⟩
  exact ⟨_, _, rfl, rfl, VK.turn e1, p1, p2, p3, p5, ra, rc, Hp.set_same _ _ _, MapAt.ke k1 rfl (m1.ext e1), MapAt.ke k1 rfl (m2.ext e1), MapAt.ke k1 rfl (m3.ext e1), MapAt.ke k1 rfl m5, (r.ext e1).ke k1 rfl⟩

def VS.room (V : VS) (k : ByteArray) : Bool := (kget V.writes k).isSome || decide (V.writes.length < 48)

theorem ok_Vroom {h : Hp} {v : Nat} {V : VS} (hv : VAt h v V) (k : ByteArray) :
    FnH Tryd.prog N_view_View_room #[.pointer (some ⟨v, 0, none⟩), .string k] h fun r h' => r = .bool (V.room k) ∧ h = h' := by
  refine F_view_View_room.calls _ k h _ ?_
  unfold F_view_View_room
  obtain ⟨p1, p2, p3, p4, ra, rc, hb, m1, m2, m3, m4, r⟩ := hv
  refine bsF rfl (pS ⟨_, at_cellI hb rfl, ?_⟩)
  refine (ok_MGet m3 k).mono ?_
  rintro _ _ ⟨rfl, rfl⟩
  refine ⟨_, _, rfl, bs (fun c => ?_) fun c => ?_⟩
  · exact ⟨by unfold VS.room; rw [c]; rfl, rfl⟩
  · refine pS ⟨_, at_cellI hb rfl, ?_⟩
    refine (ok_MLen m3).mono ?_
    rintro _ _ ⟨rfl, rfl⟩
    refine ⟨_, rfl, ?_, rfl⟩
    unfold VS.room
    rw [c, Bool.false_or]
    congr 1
    exact decide_eq_decide.2 (by omega)

/-- A value behind its mark. -/
def marked (s : ByteArray) : ByteArray := ByteArray.mk #[61] ++ s

def VS.set (V : VS) (k s : ByteArray) : VS := { V with writes := kset V.writes k (marked s), shown := kset V.shown k s }
def VS.cut (V : VS) (k : ByteArray) : VS := { V with writes := if (kget V.base k).isSome then kset V.writes k E0 else kcut V.writes k, shown := kcut V.shown k }

theorem ok_VSet {h : Hp} {v : Nat} {V : VS} (hv : VAt h v V) (k s : ByteArray) {n : Nat} (hn : V.le n) (hs : n < 100000000) (hz : s.size < 1000000000) :
    FnH Tryd.prog N_view_View_Set #[.pointer (some ⟨v, 0, none⟩), .string k, .string s] h fun r h' => r = .bool (V.room k) ∧ VK v V.rb V.rb h h' ∧ VAt h' v (if V.room k then V.set k s else V) := by
  refine F_view_View_Set.calls _ k s h _ ?_
  unfold F_view_View_Set
  refine (ok_Vroom hv k).mono ?_
  rintro _ _ ⟨rfl, rfl⟩
  refine ⟨_, rfl, ?_⟩
  cases hrm : V.room k with
  | false => exact bsT rfl ⟨rfl, VK.refl, hv⟩
  | true =>
    obtain ⟨p1, p2, p3, p4, ra, rc, hb, m1, m2, m3, m4, r⟩ := hv
    have := hn.writes
    have := hn.shown
    refine bsF rfl (pS ⟨_, at_cellI hb rfl, ?_, ?_⟩)
    · have : (ByteArray.mk #[61]).size = 1 := rfl
      rw [this]; omega
    refine (ok_MSet m3 k _ (by omega)).mono ?_
    rintro _ h1 ⟨p5, rfl, e1, m5⟩
    refine ⟨_, rfl, pS ?_⟩
    rw [add_at]
    refine hst_at (e1 _ _ hb) (by simp) (pS ?_)
    have k1 : Ke [T_view_View] h1 (h1.set v (.cells #[.pointer p1, .pointer p2, .pointer p5, .pointer p4, .slice ra V.nr rc] T_view_View (0, 0))) := ke_set (e1 _ _ hb) rfl
    have hb1 := Hp.set_same h1 v (.cells #[.pointer p1, .pointer p2, .pointer p5, .pointer p4, .slice ra V.nr rc] T_view_View (0, 0))
    refine ⟨_, at_cellI hb1 rfl, ?_⟩
    refine (ok_MSet (MapAt.ke k1 rfl (m2.ext e1)) k s (by omega)).mono ?_
    rintro _ h2 ⟨p6, rfl, e2, m6⟩
    refine ⟨_, rfl, pS ?_⟩
    rw [add_at]
    refine hst_at (e2 _ _ hb1) (by simp) ?_
    have k2 : Ke [T_view_View] h2 (h2.set v (.cells #[.pointer p1, .pointer p6, .pointer p5, .pointer p4, .slice ra V.nr rc] T_view_View (0, 0))) := ke_set (e2 _ _ hb1) rfl
    have k3 := k1.trans (e2.ke.trans k2)
    refine ⟨rfl, ?_, p1, p6, p5, p4, ra, rc, Hp.set_same _ _ _, MapAt.ke k3 rfl (m1.ext e1), MapAt.ke k2 rfl m6, MapAt.ke k3 rfl m5, MapAt.ke k3 rfl (m4.ext e1), (r.ext e1).ke k3 rfl⟩
    exact VK.trans (by rw [hb1]; simp) (VK.turn e1) (VK.turn e2)

theorem ok_VCut {h : Hp} {v : Nat} {V : VS} (hv : VAt h v V) (k : ByteArray) {n : Nat} (hn : V.le n) (hs : n < 100000000) :
    FnH Tryd.prog N_view_View_Cut #[.pointer (some ⟨v, 0, none⟩), .string k] h fun r h' => r = .bool (V.room k) ∧ VK v V.rb V.rb h h' ∧ VAt h' v (if V.room k then V.cut k else V) := by
  refine F_view_View_Cut.calls _ k h _ ?_
  unfold F_view_View_Cut
  refine (ok_Vroom hv k).mono ?_
  rintro _ _ ⟨rfl, rfl⟩
  refine ⟨_, rfl, ?_⟩
  cases hrm : V.room k with
  | false => exact bsT rfl ⟨rfl, VK.refl, hv⟩
  | true =>
    obtain ⟨p1, p2, p3, p4, ra, rc, hb, m1, m2, m3, m4, r⟩ := hv
    have := hn.writes
    have := hn.shown
    refine bsF rfl fun J hJ => ?_
    -- behind the write
    have k7 : ∀ (p5 : Option Addr) (h1 : Hp), Ext h h1 → MAt h1 p5 (V.cut k).writes → J (h1.set v (.cells #[.pointer p1, .pointer p2, .pointer p5, .pointer p4, .slice ra V.nr rc] T_view_View (0, 0))) := by
      intro p5 h1 e1 m5
      have k1 : Ke [T_view_View] h1 (h1.set v (.cells #[.pointer p1, .pointer p2, .pointer p5, .pointer p4, .slice ra V.nr rc] T_view_View (0, 0))) := ke_set (e1 _ _ hb) rfl
      have hb1 := Hp.set_same h1 v (.cells #[.pointer p1, .pointer p2, .pointer p5, .pointer p4, .slice ra V.nr rc] T_view_View (0, 0))
      refine hJ _ (pS ⟨_, at_cellI hb1 rfl, ?_⟩)
      refine (ok_MCut (MapAt.ke k1 rfl (m2.ext e1)) k (by omega)).mono ?_
      rintro _ h2 ⟨p6, rfl, e2, m6⟩
      refine ⟨_, rfl, pS ?_⟩
      rw [add_at]
      refine hst_at (e2 _ _ hb1) (by simp) ?_
      have k2 : Ke [T_view_View] h2 (h2.set v (.cells #[.pointer p1, .pointer p6, .pointer p5, .pointer p4, .slice ra V.nr rc] T_view_View (0, 0))) := ke_set (e2 _ _ hb1) rfl
      have k3 := k1.trans (e2.ke.trans k2)
      refine ⟨rfl, ?_, p1, p6, p5, p4, ra, rc, Hp.set_same _ _ _, MapAt.ke k3 rfl (m1.ext e1), MapAt.ke k2 rfl m6, MapAt.ke k3 rfl m5, MapAt.ke k3 rfl (m4.ext e1), (r.ext e1).ke k3 rfl⟩
      exact VK.trans (by rw [hb1]; simp) (VK.turn e1) (VK.turn e2)
    refine pS ⟨_, at_cellI hb rfl, ?_⟩
    refine (ok_MGet m1 k).mono ?_
    rintro _ _ ⟨rfl, rfl⟩
    refine ⟨_, _, rfl, bs (fun c => ?_) fun c => ?_⟩
    · refine pS ⟨_, at_cellI hb rfl, ?_⟩
      refine (ok_MSet m3 k E0 (by omega)).mono ?_
      rintro _ h1 ⟨p5, rfl, e1, m5⟩
      refine ⟨_, rfl, pS ?_⟩
      rw [add_at]
      refine hst_at (e1 _ _ hb) (by simp) (k7 p5 h1 e1 ?_)
      unfold VS.cut
      rw [if_pos c]; exact m5
    · refine pS ⟨_, at_cellI hb rfl, ?_⟩
      refine (ok_MCut m3 k (by omega)).mono ?_
      rintro _ h1 ⟨p5, rfl, e1, m5⟩
      refine ⟨_, rfl, pS ?_⟩
      rw [add_at]
      refine hst_at (e1 _ _ hb) (by simp) (k7 p5 h1 e1 ?_)
      unfold VS.cut
      rw [if_neg (by rw [c]; simp)]; exact m5

theorem ok_Idx2 {h : Hp} {a : Option Addr} {l c : Nat} {xs : KV} (hl : xs.length = l) (hs : Sl h T_a2_string 2 a l c (tv2 xs)) (x y : ByteArray) (hb : l < 1000000000) :
    FnH Tryd.prog N_slices_Contains_2_string_2_string #[.slice a l c, .agg #[.string x, .string y]] h fun r h' => ∃ b, r = .bool b ∧ h = h' := by
  refine F_slices_Contains_2_string_2_string.calls a l c x y h _ ?_
  unfold F_slices_Contains_2_string_2_string
  have : FnH Tryd.prog N_slices_Index_2_string_2_string #[.slice a l c, .agg #[.string x, .string y]] h fun r h' => ∃ n, r = .int .i64 n ∧ h = h' := by
    refine F_slices_Index_2_string_2_string.calls a l c x y h _ ?_
    unfold F_slices_Index_2_string_2_string
    refine ⟨fun m i g => ∃ k : Nat, i = k ∧ m + k = l ∧ h = g, ⟨l, 0, rfl, rfl, rfl⟩, ?_⟩
    rintro m i g ⟨k, rfl, hk, rfl⟩
    refine bs (fun ht => ?_) fun hf => ⟨_, rfl, rfl⟩
    have hkl : k < l := by simpa using ht
    obtain ⟨p, rfl, hp⟩ := hs.atF (xs := xs) (f := fun (p : ByteArray × ByteArray) => [Value.string p.1, Value.string p.2]) (fun _ => rfl) (by decide) hkl (by omega)
    refine ⟨by omega, by omega, pS ⟨_, _, hp, bs (fun _ => ⟨_, rfl, rfl⟩) fun _ => ⟨by unfold I64; omega, m - 1, by omega, k + 1, by omega, by omega, rfl⟩⟩⟩
  refine this.mono ?_
  rintro _ _ ⟨n, rfl, rfl⟩
  exact ⟨_, rfl, _, rfl, rfl⟩

theorem ok_VRange {h : Hp} {v : Nat} {V : VS} (hv : VAt h v V) (x y : ByteArray) (hxy : strLt x y = true) {n : Nat} (hn : V.le n) (hs : n < 100000000) :
    FnH Tryd.prog N_view_View_Range #[.pointer (some ⟨v, 0, none⟩), .string x, .string y] h fun r h' => ∃ nr rb q l c, r = .slice q l c ∧ nr ≤ V.nr + 1 ∧ VK v V.rb rb h h' ∧ VAt h' v { V with nr := nr, rb := rb } ∧ POut h h' q l c (krange V.shown x y) := by
  refine F_view_View_Range.calls _ x y h _ ?_
  unfold F_view_View_Range
  have hv0 := hv
  obtain ⟨p1, p2, p3, p4, ra, rc, hb, m1, m2, m3, m4, xs, x1, x2, x3⟩ := hv
  have := hn.nr
  have := hn.shown
  refine bsF rfl (bsF (by rw [hxy]; rfl) (pS ⟨_, _, _, at_cellI hb rfl, ?_⟩))
  refine (ok_Idx2 x1 x2 x y (by omega)).mono ?_
  rintro _ _ ⟨b, rfl, rfl⟩
  refine ⟨_, rfl, bs (fun c => ?_) fun c => ?_⟩
  · refine ⟨fun g => g v = h v, rfl, pS ⟨ra, V.nr, rc, fun g e => at_cellI (e.trans hb) rfl, fun b' hb' => ?_⟩⟩
    have hvb : v ≠ b' := by rintro rfl; rw [hb] at hb'; cases hb'
    refine ⟨Hp.set_ne _ _ hvb, ?_⟩
    have eN := Ext.new (h := h) (o := .cells #[.string x, .string y] T_a2_string) hb'
    -- the ranges' array is the view's own
    let h00 : Hp := fun i => if V.rb = some i then none else h i
    have e00 : Ext h00 (h.set b' (.cells #[.string x, .string y] T_a2_string)) := by
      intro i o hi
      dsimp only [h00] at hi
      split at hi
      · cases hi
      · exact eN _ _ hi
    have ho : Out h00 (h.set b' (.cells #[.string x, .string y] T_a2_string)) T_a2_string 2 ra V.nr rc (tv2 xs) := by
      refine ⟨x2.ext eN, ?_⟩
      rcases x3 with x3 | ⟨b, o, cs, e1, e2, e3, e4⟩
      · exact .inl x3.1
      · exact .inr ⟨b, o, cs, e1, by simp [h00, e2], eN _ _ e3, e4⟩
    refine happ (t := tyOf T_a2_string) (vs := tv2 xs) (new := tv2 [(x, y)]) e00 ho (src_new (Hp.set_same _ _ _) rfl) (tv2_leaf _) (by decide) rfl (by have : (tyOf T_a2_string).bytes = 32 := rfl; rw [this]; omega) fun a' c' h' e' o' g' => ?_
    have hv2 : h' v = h v := by
      rw [g'.1 v _ (eN _ _ hb) (.inl ?_), hb]
      dsimp only [h00]
      rw [if_neg, hb]
      · simp
      · intro e
        rcases x3 with x3 | ⟨b, o, cs, e1, e2, e3, e4⟩
        · rw [x3.2] at e; cases e
        · rw [e2] at e; cases e
          rw [hb] at e3; cases e3
    refine ⟨hv2, pS ?_⟩
    rw [add_at]
    have hb2 : h' v = some (.cells #[.pointer p1, .pointer p2, .pointer p3, .pointer p4, .slice ra V.nr rc] T_view_View (0, 0)) := hv2.trans hb
    refine hst_at hb2 (by simp) ?_
    have hb3 := Hp.set_same h' v (.cells #[.pointer p1, .pointer p2, .pointer p3, .pointer p4, .slice a' (V.nr + 1) c'] T_view_View (0, 0))
    refine pS ⟨_, at_cellI hb3 rfl, ?_⟩
    -- what stays
    have kk : ∀ i o, h i = some o → i ≠ v → V.rb ≠ some i → (h'.set v (.cells #[.pointer p1, .pointer p2, .pointer p3, .pointer p4, .slice a' (V.nr + 1) c'] T_view_View (0, 0))) i = some o := by
      intro i o hi hne hr
      rw [Hp.set_ne _ _ hne]
      exact g'.1 i o (eN _ _ hi) (.inl (by dsimp only [h00]; rw [if_neg hr, hi]; simp))
    obtain ⟨o1, o2⟩ := o'
    obtain ⟨rb, hrb, hro⟩ : ∃ rb, (∀ b, rb = some b → V.rb = some b ∨ h b = none) ∧ ((c' * 2 = 0 ∧ rb = none) ∨ ∃ b o cs, a' = some ⟨b, o, none⟩ ∧ rb = some b ∧ h' b = some (.cells cs T_a2_string (0, 0)) ∧ o + c' * 2 ≤ cs.size) := by
      rcases o2 with o2 | ⟨b, o, cs, e1, e2, e3, e4⟩
      · exact ⟨none, fun _ hh => (by cases hh), .inl ⟨o2, rfl⟩⟩
      · refine ⟨some b, fun i hi => ?_, .inr ⟨b, o, cs, e1, rfl, e3, e4⟩⟩
        cases hi
        dsimp only [h00] at e2
        split at e2
        · rename_i hh; exact .inl hh
        · exact .inr e2
    have vk : VK v V.rb rb h (h'.set v (.cells #[.pointer p1, .pointer p2, .pointer p3, .pointer p4, .slice a' (V.nr + 1) c'] T_view_View (0, 0))) := ⟨kk, hrb, fun i hi => by
      by_cases hne : i = v
      · rw [hne, hb3]; simp
      · rw [Hp.set_ne _ _ hne]; exact g'.2 i (fun h0 => hi (eN.none h0))⟩
    have ke := VK.ke hv0 vk
    have kv : Ke [T_view_View] h' (h'.set v (.cells #[.pointer p1, .pointer p2, .pointer p3, .pointer p4, .slice a' (V.nr + 1) c'] T_view_View (0, 0))) := ke_set hb2 rfl
    have hV : VAt (h'.set v (.cells #[.pointer p1, .pointer p2, .pointer p3, .pointer p4, .slice a' (V.nr + 1) c'] T_view_View (0, 0))) v { V with nr := V.nr + 1, rb := rb } := by
      refine ⟨p1, p2, p3, p4, a', c', hb3, MapAt.ke ke rfl m1, MapAt.ke ke rfl m2, MapAt.ke ke rfl m3, MapAt.ke ke rfl m4, xs ++ [(x, y)], by simp [x1], ?_, ?_⟩
      · have : tv2 (xs ++ [(x, y)]) = tv2 xs ++ tv2 [(x, y)] := by simp [tv2]
        rw [this]
        exact o1.ke kv rfl
      · refine hro.imp id ?_
        rintro ⟨b, o, cs, e1, e2, e3, e4⟩
        exact ⟨b, o, cs, e1, e2, kv _ _ e3 rfl, e4⟩
    refine (ok_MRange (MapAt.ke ke rfl m2) x y (by omega)).mono ?_
    rintro _ h2 ⟨q, l, c2, rfl, e2, po⟩
    refine ⟨_, _, _, rfl, V.nr + 1, rb, q, l, c2, rfl, Nat.le_refl _, ?_, hV.ext e2, po.1, po.2.1, ?_⟩
    · exact VK.trans (by rw [hb3]; simp) vk (VK.ext e2)
    · refine po.2.2.imp id ?_
      rintro ⟨b, o, cs, f1, f2, f3, f4⟩
      refine ⟨b, o, cs, f1, ?_, f3, f4⟩
      cases hx : h b with
      | none => rfl
      | some ob =>
        exfalso
        by_cases hbv : b = v
        · subst hbv; rw [hb3] at f2; cases f2
        · by_cases hr : V.rb = some b
          · rcases x3 with x3 | ⟨b3, o3, cs3, g1, g2, g3, g4⟩
            · rw [x3.2] at hr; cases hr
            · rw [g2] at hr; cases hr
              rw [Hp.set_ne _ _ hbv] at f2
              exact g'.2 b (by rw [eN _ _ g3]; simp) f2
          · rw [kk b ob hx hbv hr] at f2; cases f2
  · refine pS ⟨_, at_cellI hb rfl, ?_⟩
    refine (ok_MRange m2 x y (by omega)).mono ?_
    rintro _ h2 ⟨q, l, c2, rfl, e2, po⟩
    exact ⟨_, _, _, rfl, V.nr, V.rb, q, l, c2, rfl, by omega, VK.ext e2, hv0.ext e2, po⟩

end Go.Proofs.YtkhfofnglkekoaaDoor
