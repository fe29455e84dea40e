/- Own verification-condition framework, part A: partial heaps, the weakest precondition of the model's instruction monad over them, and the triple of a call. Conditions: none. -/
import Derived.Calls
import Derived.Orders
namespace Go.Proofs.YtkhfofnglkekoaaDoor

/-- A part of the heap. -/
abbrev Hp := Nat → Option Obj

def Hp.set (h : Hp) (b : Nat) (o : Obj) : Hp := fun i => if i = b then some o else h i

theorem Hp.set_same (h : Hp) (b : Nat) (o : Obj) : h.set b o b = some o := by simp [Hp.set]
theorem Hp.set_ne (h : Hp) {b i : Nat} (o : Obj) (n : i ≠ b) : h.set b o i = h i := by simp [Hp.set, n]

/-- The part lies in the world. -/
def Sub (h : Hp) (w : World) : Prop := ∀ b o, h b = some o → w.heap[b]? = some o

/-- From one world to a later one: what was not in the part is as it was; the new part lies in the new world; what is new in it is fresh. -/
structure Fr (h : Hp) (w : World) (h' : Hp) (w' : World) : Prop where
  os : w'.os = w.os
  tape : w'.tape = w.tape
  output : w'.output = w.output
  size : w.heap.size ≤ w'.heap.size
  keep : ∀ b, b < w.heap.size → h b = none → w'.heap[b]? = w.heap[b]? ∧ h' b = none
  sub : Sub h' w'

theorem Fr.refl {h : Hp} {w : World} (s : Sub h w) : Fr h w h w := ⟨rfl, rfl, rfl, Nat.le_refl _, fun _ _ hn => ⟨rfl, hn⟩, s⟩

theorem Fr.trans {h h1 h2 : Hp} {w w1 w2 : World} (a : Fr h w h1 w1) (b : Fr h1 w1 h2 w2) : Fr h w h2 w2 :=
  ⟨b.os.trans a.os, b.tape.trans a.tape, b.output.trans a.output, Nat.le_trans a.size b.size,
   fun k hk hn => by
    obtain ⟨e1, n1⟩ := a.keep k hk hn
    obtain ⟨e2, n2⟩ := b.keep k (Nat.lt_of_lt_of_le hk a.size) n1
    exact ⟨e2.trans e1, n2⟩, b.sub⟩

theorem Sub.lt {h : Hp} {w : World} (s : Sub h w) {b : Nat} {o : Obj} (hb : h b = some o) : b < w.heap.size := by
  have := s b o hb
  exact (Array.getElem?_eq_some_iff.1 this).1

theorem Sub.drew {h : Hp} {w : World} (s : Sub h w) (n : Nat) : Sub h { w with drawn := n } := s
theorem Fr.drew {h h' : Hp} {w w' : World} (s : Fr h w h' w') (n : Nat) : Fr h w h' { w' with drawn := n } := ⟨s.os, s.tape, s.output, s.size, s.keep, s.sub⟩

/-- A cell of the part. -/
def Hp.cell (h : Hp) (a : Addr) : Option Value :=
  match h a.block with
  | some (.cells c _ _) => if a.spot.isSome then none else c[a.off]?
  | _ => none

theorem Hp.cell_world {h : Hp} {w : World} (s : Sub h w) {a : Addr} {v : Value} (hc : h.cell a = some v) : w.cell? a = some v := by
  unfold Hp.cell at hc
  cases hb : h a.block with
  | none => simp [hb] at hc
  | some o =>
    have := s _ _ hb
    unfold World.cell?
    rw [this]
    cases o <;> simp_all

def rowOf : Obj → Option (TypeId × Nat)
  | .cells c e _ => some (e, c.size)
  | _ => none

/-- What an instruction does over a part of the heap. -/
def wpH (P : Program) {α : Type} : Sem α → (α → Hp → Prop) → Hp → Prop
  | .pure a, K, h => K a h
  | .load _ a k, K, h => ∃ v, h.cell a = some v ∧ wpH P (k v) K h
  | .store _ a v k, K, h => (match v with | .agg _ => False | .tuple _ => False | _ => True) ∧ ∃ c e fr, h a.block = some (.cells c e fr) ∧ a.spot = none ∧ a.off < c.size ∧
      (decide (fr.1 ≤ a.off) && decide (a.off < fr.2)) = false ∧ wpH P k K (h.set a.block (.cells (c.setIfInBounds a.off v) e fr))
  | .new o k, K, h => ∀ b, h b = none → wpH P (k b) K (h.set b o)
  | .shape r k, K, h => ∃ o, h r = some o ∧ wpH P (k (rowOf o)) K h
  | .freeze a n k, K, h => ∃ c e lo hi, h a.block = some (.cells c e (lo, hi)) ∧ n ≠ 0 ∧
      wpH P k K (h.set a.block (.cells c e (if lo == hi then (a.off, a.off + n) else (min lo a.off, max hi (a.off + n)))))
  | .frozen a k, K, h => ∃ c e fr, h a.block = some (.cells c e fr) ∧ wpH P (k (decide (fr.1 ≤ a.off) && decide (a.off < fr.2))) K h
  | .getObj r k, K, h => ∃ o, h r = some o ∧ (match o with | .cells .. => False | _ => True) ∧ wpH P (k o) K h
  | .setObj r o k, K, h => ∃ o', h r = some o' ∧ (match o' with | .cells .. => False | _ => True) ∧ wpH P k K (h.set r o)
  | .choose q k, K, h => (q.forced = true → wpH P (k 0) K h) ∧ (q.forced = false → ∀ t, wpH P (k (q.cut t)) K h)
  | .sys _ _, _, _ => False
  | .program k, K, h => wpH P (k P) K h
  | .mark _ k, K, h => wpH P k K h
  | .halt _, _, _ => False

theorem wpH_mono {P : Program} {α : Type} (s : Sem α) : ∀ {K K' : α → Hp → Prop} {h : Hp}, (∀ a h, K a h → K' a h) → wpH P s K h → wpH P s K' h := by
  induction s with
  | pure a => intro K K' h hk H; exact hk _ _ H
  | load m a k ih => rintro K K' h hk ⟨v, hc, H⟩; exact ⟨v, hc, ih v hk H⟩
  | store m a v k ih => rintro K K' h hk ⟨hv, c, e, fr, hb, hs, ho, hf, H⟩; exact ⟨hv, c, e, fr, hb, hs, ho, hf, ih hk H⟩
  | new o k ih => intro K K' h hk H b hb; exact ih b hk (H b hb)
  | shape r k ih => rintro K K' h hk ⟨o, ho, H⟩; exact ⟨o, ho, ih _ hk H⟩
  | freeze a n k ih => rintro K K' h hk ⟨c, e, lo, hi, hb, hn, H⟩; exact ⟨c, e, lo, hi, hb, hn, ih hk H⟩
  | frozen a k ih => rintro K K' h hk ⟨c, e, fr, hb, H⟩; exact ⟨c, e, fr, hb, ih _ hk H⟩
  | getObj r k ih => rintro K K' h hk ⟨o, ho, hn, H⟩; exact ⟨o, ho, hn, ih _ hk H⟩
  | setObj r o k ih => rintro K K' h hk ⟨o', ho, hn, H⟩; exact ⟨o', ho, hn, ih hk H⟩
  | choose q k ih => rintro K K' h hk ⟨H1, H2⟩; exact ⟨fun e => ih _ hk (H1 e), fun e t => ih _ hk (H2 e t)⟩
  | sys c k ih => intro K K' h hk H; exact H.elim
  | program k ih => intro K K' h hk H; exact ih _ hk H
  | mark m k ih => intro K K' h hk H; exact ih hk H
  | halt x => intro K K' h hk H; exact H.elim

theorem wpH_bind {P : Program} {α β : Type} (s : Sem α) (f : α → Sem β) : ∀ {K : β → Hp → Prop} {h : Hp}, wpH P s (fun a h => wpH P (f a) K h) h → wpH P (s.bind f) K h := by
  induction s with
  | pure a => intro K h H; exact H
  | load m a k ih => rintro K h ⟨v, hc, H⟩; exact ⟨v, hc, ih v H⟩
  | store m a v k ih => rintro K h ⟨hv, c, e, fr, hb, hs, ho, hf, H⟩; exact ⟨hv, c, e, fr, hb, hs, ho, hf, ih H⟩
  | new o k ih => intro K h H b hb; exact ih b (H b hb)
  | shape r k ih => rintro K h ⟨o, ho, H⟩; exact ⟨o, ho, ih _ H⟩
  | freeze a n k ih => rintro K h ⟨c, e, lo, hi, hb, hn, H⟩; exact ⟨c, e, lo, hi, hb, hn, ih H⟩
  | frozen a k ih => rintro K h ⟨c, e, fr, hb, H⟩; exact ⟨c, e, fr, hb, ih _ H⟩
  | getObj r k ih => rintro K h ⟨o, ho, hn, H⟩; exact ⟨o, ho, hn, ih _ H⟩
  | setObj r o k ih => rintro K h ⟨o', ho, hn, H⟩; exact ⟨o', ho, hn, ih H⟩
  | choose q k ih => rintro K h ⟨H1, H2⟩; exact ⟨fun e => ih _ (H1 e), fun e t => ih _ (H2 e t)⟩
  | sys c k ih => intro K h H; exact H.elim
  | program k ih => intro K h H; exact ih _ H
  | mark m k ih => intro K h H; exact ih H
  | halt x => intro K h H; exact H.elim

theorem sub_set {h : Hp} {w : World} (s : Sub h w) {b : Nat} {o : Obj} {w' : World} (he : ∀ i, i ≠ b → w'.heap[i]? = w.heap[i]?) (hb : w'.heap[b]? = some o) : Sub (h.set b o) w' := by
  intro i x hx
  by_cases hi : i = b
  · subst hi; rw [Hp.set_same] at hx; cases hx; exact hb
  · rw [Hp.set_ne h o hi] at hx; rw [he i hi]; exact s i x hx

theorem fr_set {h : Hp} {w : World} (s : Sub h w) {b : Nat} {o o' : Obj} (hb : h b = some o') : Fr h w (h.set b o) { w with heap := w.heap.setIfInBounds b o } := by
  have hlt := s.lt hb
  refine ⟨rfl, rfl, rfl, by simp, fun k hk hn => ?_, ?_⟩
  · have hne : k ≠ b := by rintro rfl; rw [hb] at hn; cases hn
    exact ⟨by simp [Array.getElem?_setIfInBounds_ne (Ne.symm hne)], by rw [Hp.set_ne _ _ hne]; exact hn⟩
  · exact sub_set s (fun i hi => by simp [Array.getElem?_setIfInBounds_ne (Ne.symm hi)]) (by simp [hlt])

theorem modify_eq {w : World} {b : Nat} {o : Obj} (hb : w.heap[b]? = some o) (f : Obj → Obj) : w.heap.modify b f = w.heap.setIfInBounds b (f o) := by
  apply Array.ext_getElem?
  intro i
  by_cases hi : i = b
  · subst hi
    have hlt := (Array.getElem?_eq_some_iff.1 hb).1
    simp only [Array.getElem?_modify, if_true, hb, Option.map_some, Array.getElem?_setIfInBounds_self, hlt]
  · simp only [Array.getElem?_modify, Array.getElem?_setIfInBounds_ne (Ne.symm hi), if_neg (Ne.symm hi)]

theorem wpH_sound {P : Program} {α : Type} (s : Sem α) : ∀ {K : α → Hp → Prop} {h : Hp} {w : World}, wpH P s K h → Sub h w → ∃ x w' h', s.run P w = .ok x w' ∧ Fr h w h' w' ∧ K x h' := by
  induction s with
  | pure a => intro K h w H hs; exact ⟨a, w, h, rfl, Fr.refl hs, H⟩
  | load m a k ih =>
    rintro K h w ⟨v, hc, H⟩ hs
    obtain ⟨x, w', h', hr, hf, hk⟩ := ih v H hs
    refine ⟨x, w', h', ?_, hf, hk⟩
    simp only [Sem.run, Hp.cell_world hs hc]; exact hr
  | store m a v k ih =>
    rintro K h w ⟨hv, c, e, fr, hb, hsp, ho, hfz, H⟩ hs
    have hwb := hs _ _ hb
    have hset : w.setCell a v = { w with heap := w.heap.setIfInBounds a.block (.cells (c.setIfInBounds a.off v) e fr) } := by
      unfold World.setCell
      rw [modify_eq hwb]
      simp [hsp]
    have hcell : w.cell? a = some c[a.off] := by
      unfold World.cell?
      rw [hwb]
      simp [hsp, ho]
    have hfr : w.frozen? a = false := by
      unfold World.frozen?
      rw [hwb]
      exact hfz
    have f1 := fr_set hs (o := .cells (c.setIfInBounds a.off v) e fr) hb
    obtain ⟨x, w', h', hr, hf, hk⟩ := ih H f1.sub
    refine ⟨x, w', h', ?_, f1.trans hf, hk⟩
    cases v with
    | agg _ => exact hv.elim
    | tuple _ => exact hv.elim
    | _ => simp only [Sem.run, hcell, hfr, Bool.false_eq_true, if_false, hset]; exact hr
  | new o k ih =>
    intro K h w H hs
    have hn : h w.heap.size = none := by
      cases hx : h w.heap.size with
      | none => rfl
      | some o' => exact absurd (hs.lt hx) (Nat.lt_irrefl _)
    have f1 : Fr h w (h.set w.heap.size o) { w with heap := w.heap.push o } := by
      refine ⟨rfl, rfl, rfl, by simp, fun b hb hnb => ?_, ?_⟩
      · have hne : b ≠ w.heap.size := Nat.ne_of_lt hb
        exact ⟨by simp [Array.getElem?_push, hne], by rw [Hp.set_ne _ _ hne]; exact hnb⟩
      · intro i x hx
        by_cases hi : i = w.heap.size
        · subst hi; rw [Hp.set_same] at hx; cases hx; simp
        · rw [Hp.set_ne _ _ hi] at hx
          have := hs i x hx
          simp only [Array.getElem?_push, hi, if_false]; exact this
    obtain ⟨x, w', h', hr, hf, hk⟩ := ih w.heap.size (H _ hn) f1.sub
    exact ⟨x, w', h', hr, f1.trans hf, hk⟩
  | shape r k ih =>
    rintro K h w ⟨o, ho, H⟩ hs
    obtain ⟨x, w', h', hr, hf, hk⟩ := ih _ H hs
    refine ⟨x, w', h', ?_, hf, hk⟩
    have : w.shape? r = rowOf o := by
      unfold World.shape?
      rw [hs _ _ ho]
      cases o <;> rfl
    simp only [Sem.run, this]; exact hr
  | freeze a n k ih =>
    rintro K h w ⟨c, e, lo, hi, hb, hn, H⟩ hs
    have f1 := fr_set hs (o := .cells c e (if lo == hi then (a.off, a.off + n) else (min lo a.off, max hi (a.off + n)))) hb
    obtain ⟨x, w', h', hr, hf, hk⟩ := ih H f1.sub
    refine ⟨x, w', h', ?_, f1.trans hf, hk⟩
    have : w.freeze a n = { w with heap := w.heap.setIfInBounds a.block (.cells c e (if lo == hi then (a.off, a.off + n) else (min lo a.off, max hi (a.off + n)))) } := by
      unfold World.freeze
      rw [if_neg hn, modify_eq (hs _ _ hb)]
    simp only [Sem.run, this]; exact hr
  | frozen a k ih =>
    rintro K h w ⟨c, e, fr, hb, H⟩ hs
    obtain ⟨x, w', h', hr, hf, hk⟩ := ih _ H hs
    refine ⟨x, w', h', ?_, hf, hk⟩
    have : w.frozen? a = (decide (fr.1 ≤ a.off) && decide (a.off < fr.2)) := by
      unfold World.frozen?
      rw [hs _ _ hb]
    simp only [Sem.run, this]; exact hr
  | getObj r k ih =>
    rintro K h w ⟨o, ho, hn, H⟩ hs
    obtain ⟨x, w', h', hr, hf, hk⟩ := ih _ H hs
    refine ⟨x, w', h', ?_, hf, hk⟩
    have := hs _ _ ho
    cases o with
    | cells c e f => exact hn.elim
    | _ => simp only [Sem.run, this]; exact hr
  | setObj r o k ih =>
    rintro K h w ⟨o', ho, hn, H⟩ hs
    have f1 := fr_set hs (o := o) ho
    obtain ⟨x, w', h', hr, hf, hk⟩ := ih H f1.sub
    refine ⟨x, w', h', ?_, f1.trans hf, hk⟩
    have := hs _ _ ho
    cases o' with
    | cells c e f => exact hn.elim
    | _ => simp only [Sem.run, this]; exact hr
  | choose q k ih =>
    rintro K h w ⟨H1, H2⟩ hs
    by_cases hq : q.forced = true
    · obtain ⟨x, w', h', hr, hf, hk⟩ := ih _ (H1 hq) hs
      exact ⟨x, w', h', by simp only [Sem.run, hq, if_true]; exact hr, hf, hk⟩
    · have hq' : q.forced = false := by simpa using hq
      obtain ⟨x, w', h', hr, hf, hk⟩ := ih _ (H2 hq' (w.tape w.drawn q)) (hs.drew (w.drawn + 1))
      refine ⟨x, w', h', by simp only [Sem.run, hq', Bool.false_eq_true, if_false]; exact hr, ?_, hk⟩
      exact ⟨hf.os, hf.tape, hf.output, hf.size, hf.keep, hf.sub⟩
  | sys c k ih => intro K h w H; exact H.elim
  | program k ih => intro K h w H hs; exact ih P H hs
  | mark m k ih =>
    intro K h w H hs
    obtain ⟨x, w', h', hr, hf, hk⟩ := ih H hs
    exact ⟨x, w', h', hr, hf, hk⟩
  | halt x => intro K h w H; exact H.elim

/-- A call, over a part of the heap: it returns; what it gives and the part behind it are as R says; all else in memory is as it was. -/
def FnH (P : Program) (f : FuncId) (args : Array Value) (h : Hp) (R : Value → Hp → Prop) : Prop :=
  ∀ w, Sub h w → Calls P f args w fun e w' => ∃ v h', e = .returned v ∧ Fr h w h' w' ∧ R v h'

theorem FnH.mono {P : Program} {f : FuncId} {args : Array Value} {h : Hp} {R R' : Value → Hp → Prop} (H : FnH P f args h R) (hr : ∀ v h', R v h' → R' v h') : FnH P f args h R' :=
  fun w hs => (H w hs).mono fun _ _ ⟨v, h', e, f, r⟩ => ⟨v, h', e, f, hr _ _ r⟩

/-- A part that lies in some world. -/
def Real (h : Hp) : Prop := ∃ w, Sub h w

theorem FnH.real {P : Program} {f : FuncId} {args : Array Value} {h : Hp} {R : Value → Hp → Prop} (H : FnH P f args h R) : FnH P f args h (fun v h' => Real h' ∧ R v h') :=
  fun w hs => (H w hs).mono fun _ w' ⟨v, h', e, f, r⟩ => ⟨v, h', e, f, ⟨w', f.sub⟩, r⟩

theorem FnH.some {P : Program} {f : FuncId} {args : Array Value} {h : Hp} {R : Value → Hp → Prop} (H : FnH P f args h R) (hr : Real h) : ∃ v h', R v h' ∧ Real h' := by
  obtain ⟨w, hs⟩ := hr
  obtain ⟨e, w', fr, ⟨v, h', _, f, r⟩, _⟩ := H w hs []
  exact ⟨v, h', r, w', f.sub⟩

end Go.Proofs.YtkhfofnglkekoaaDoor
