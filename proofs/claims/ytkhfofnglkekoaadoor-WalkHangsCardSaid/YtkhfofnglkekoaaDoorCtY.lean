/- Contracts, part Y: the references of layers 9, 10, 15, 17 that seat D reaches; package view's readings; law 17. Conditions: none. -/
import Derived.Test.YtkhfofnglkekoaaDoorCtR
namespace Go.Proofs.YtkhfofnglkekoaaDoor

theorem ok_kI3 (n : Nat) (hn : n < 4294967296) (h : Hp) : FnH Tryd.prog N_flintref09_Inode #[.int .u32 n] h fun v h' => v = .string (kI n) ∧ Ext h h' := by
  refine F_flintref09_Inode.calls _ h _ ?_
  unfold F_flintref09_Inode
  refine (ok_of3 73 n hn h).mono ?_
  rintro _ h' ⟨rfl, e⟩
  exact ⟨_, rfl, rfl, e⟩

theorem ok_kE3 (n : Nat) (hn : n < 4294967296) (s : ByteArray) (hs : s.size ≤ 32) (h : Hp) : FnH Tryd.prog N_flintref09_Entry #[.int .u32 n, .string s] h fun v h' => v = .string (kE n s) ∧ Ext h h' := by
  refine F_flintref09_Entry.calls _ _ h _ ?_
  unfold F_flintref09_Entry
  refine bsF (by simp; omega) ?_
  refine (ok_of3 69 n hn h).mono ?_
  rintro v h' ⟨rfl, he⟩
  refine ⟨_, rfl, by rw [bOf_size, keyOf_len]; omega, ?_, he⟩
  rw [kE, ← bOf_app, bOf_self]

theorem ok_rCut {h : Hp} {a : Option Addr} {l c : Nat} {xs : KV} (hs : PSl h a l c xs) (hl : l < 100000000) (k : ByteArray) :
    FnH Tryd.prog N_flintref10_Cut #[.slice a l c, .string k] h fun r h' => ∃ a' l' c', r = .slice a' l' c' ∧ Ext h h' ∧ POut h h' a' l' c' (kcut xs k) := by
  refine F_flintref10_Cut.calls a l c k h _ ?_
  unfold F_flintref10_Cut
  intro b hb
  have hxl := hs.1
  refine ⟨fun m a' l' c' i g => ∃ j : Nat, i = j ∧ m + j = l ∧ j ≤ l ∧ Ext h g ∧ POut h g a' l' c' (kcut (xs.take j) k), ⟨l, 0, rfl, rfl, by omega, Ext.new hb, rfl, Out.empty⟩, ?_⟩
  rintro m a' l' c' i g ⟨j, rfl, hm, hj, hg, po⟩
  refine bs (fun ct => ?_) fun cf => ?_
  · have ct : j < l := by have := of_decide_eq_true ct; omega
    have hlt : j < xs.length := by omega
    have htk : xs.take (j + 1) = xs.take j ++ [xs[j]] := by rw [List.take_add_one, List.getElem?_eq_getElem hlt]; rfl
    obtain ⟨p, rfl, hp⟩ := (hs.ext hg).at hlt
    refine ⟨by omega, by omega, pS ⟨_, hp.sub (i := 0) rfl, bs (fun d => ?_) fun d => ?_⟩⟩
    · have d : ¬ xs[j].1 = k := by simpa using d
      refine ⟨by omega, by omega, pS ⟨_, _, _, hp, fun b' hb' => ?_⟩⟩
      have eb : ∀ o, Ext g (g.set b' o) := fun o => Ext.new hb'
      have hpl := po.1
      have hkl := kcut_len (xs.take j) k
      refine papp (ys := [xs[j]]) (hg.trans (eb _)) (po.ext (eb _)) (src_new (Hp.set_same _ _ _) rfl) (by rw [List.length_take] at hkl; omega) fun a'' c'' h'' e'' o'' _ => ⟨by unfold I64; omega, m - 1, by omega, j + 1, by omega, by omega, by omega, e'', ?_⟩
      rw [htk, Tr.kcut_app, Tr.kcut_cons, if_neg d]
      exact o''
    · have d : xs[j].1 = k := by simpa using d
      refine ⟨by unfold I64; omega, m - 1, by omega, j + 1, by omega, by omega, by omega, hg, ?_⟩
      rw [htk, Tr.kcut_app, Tr.kcut_cons, if_pos d]
      simpa [kcut] using po
  · have cf : j = l := by have := of_decide_eq_false cf; omega
    subst cf
    rw [List.take_of_length_le (by omega)] at po
    exact ⟨_, _, _, rfl, hg, po⟩

theorem kset_done {a b : KV} {k v : ByteArray} (h : ∃ x ∈ a, strLt x.1 k = false) : kset (a ++ b) k v = kset a k v ++ b := by
  induction a with
  | nil => obtain ⟨x, hx, _⟩ := h; cases hx
  | cons y a ih =>
    obtain ⟨y1, y2⟩ := y
    simp only [List.cons_append, kset]
    split
    · rfl
    · split
      · rfl
      · rename_i h1 h2
        rw [ih]
        · rfl
        · obtain ⟨x, hx, hlt⟩ := h
          rcases List.mem_cons.1 hx with rfl | hx
          · exact absurd (lt_tot (a := k) (b := y1) h2 (by simpa using h1)) (by rw [hlt]; simp)
          · exact ⟨x, hx, hlt⟩

theorem ok_rSet {h : Hp} {a : Option Addr} {l c : Nat} {xs : KV} (hs : PSl h a l c xs) (hr : Rise xs) (hl : l < 100000000) (k v : ByteArray) :
    FnH Tryd.prog N_flintref10_Set #[.slice a l c, .string k, .string v] h fun r h' => ∃ a' l' c', r = .slice a' l' c' ∧ Ext h h' ∧ POut h h' a' l' c' (kset xs k v) := by
  refine F_flintref10_Set.calls a l c k v h _ ?_
  unfold F_flintref10_Set
  intro b hb
  have hxl := hs.1
  refine ⟨fun m a' l' c' dn i g => ∃ j : Nat, i = j ∧ m + j = l ∧ j ≤ l ∧ Ext h g ∧
    ((dn = false ∧ (∀ y ∈ xs.take j, strLt y.1 k = true) ∧ POut h g a' l' c' (xs.take j)) ∨ (dn = true ∧ (∃ y ∈ xs.take j, strLt y.1 k = false) ∧ POut h g a' l' c' (kset (xs.take j) k v))), ⟨l, 0, rfl, rfl, by omega, Ext.new hb, .inl ⟨rfl, (fun _ h => by cases h), rfl, Out.empty⟩⟩, ?_⟩
  rintro m a' l' c' dn i g ⟨j, rfl, hm, hj, hg, inv⟩
  refine bs (fun ct => ?_) fun cf => ?_
  · have ct : j < l := by have := of_decide_eq_true ct; omega
    have hlt : j < xs.length := by omega
    have htk : xs.take (j + 1) = xs.take j ++ [xs[j]] := by rw [List.take_add_one, List.getElem?_eq_getElem hlt]; rfl
    have hks := kset_len (xs.take j) k v
    rw [List.length_take] at hks
    have hrj : ∀ y ∈ xs.take j, strLt y.1 (xs[j]).1 = true := by
      have : Rise (xs.take (j + 1)) := List.Pairwise.sublist (List.take_sublist _ _) hr
      rw [htk, rise_app] at this
      exact fun y hy => this.2.2 y hy _ (by simp)
    intro J hJ
    -- the second half of the step
    have half : ∀ (q : Option Addr) (n c2 : Nat) (dn2 : Bool) (g2 : Hp) (out : KV), Ext h g2 → POut h g2 q n c2 out → out.length < 200000000 →
        (xs[j].1 ≠ k → (dn2 = false ∧ (∀ y ∈ xs.take (j + 1), strLt y.1 k = true) ∧ out ++ [xs[j]] = xs.take (j + 1)) ∨ (dn2 = true ∧ (∃ y ∈ xs.take (j + 1), strLt y.1 k = false) ∧ out ++ [xs[j]] = kset (xs.take (j + 1)) k v)) →
        (xs[j].1 = k → dn2 = true ∧ (∃ y ∈ xs.take (j + 1), strLt y.1 k = false) ∧ out = kset (xs.take (j + 1)) k v) → J q n c2 dn2 g2 := by
      intro q n c2 dn2 g2 out hg2 po2 hol h1 h2
      obtain ⟨p, rfl, hp⟩ := (hs.ext hg2).at hlt
      refine hJ _ _ _ _ _ ⟨by omega, by omega, pS ⟨_, hp.sub (i := 0) rfl, bs (fun d => ?_) fun d => ?_⟩⟩
      · have d : ¬ xs[j].1 = k := by simpa using d
        refine ⟨by omega, by omega, pS ⟨_, _, _, hp, fun b' hb' => ?_⟩⟩
        have eb : ∀ o, Ext g2 (g2.set b' o) := fun o => Ext.new hb'
        have := po2.1
        refine papp (ys := [xs[j]]) (hg2.trans (eb _)) (po2.ext (eb _)) (src_new (Hp.set_same _ _ _) rfl) (by omega) fun a'' c'' h'' e'' o'' _ => ⟨by unfold I64; omega, m - 1, by omega, j + 1, by omega, by omega, by omega, e'', ?_⟩
        rcases h1 d with ⟨r1, r2, r3⟩ | ⟨r1, r2, r3⟩
        · rw [r3] at o''; exact .inl ⟨r1, r2, o''⟩
        · rw [r3] at o''; exact .inr ⟨r1, r2, o''⟩
      · have d : xs[j].1 = k := by simpa using d
        obtain ⟨r1, r2, r3⟩ := h2 d
        rw [r3] at po2
        exact ⟨by unfold I64; omega, m - 1, by omega, j + 1, by omega, by omega, by omega, hg2, .inr ⟨r1, r2, po2⟩⟩
    obtain ⟨p, hpa, hp⟩ := (hs.ext hg).at hlt
    subst hpa
    rcases inv with ⟨rfl, hall, po⟩ | ⟨rfl, ⟨y, hy, hyk⟩, po⟩
    · refine bsT rfl ⟨by omega, by omega, pS ⟨_, hp.sub (i := 0) rfl, bs (fun d => ?_) fun d => ?_⟩⟩
      · intro b' hb'
        have eb : ∀ o, Ext g (g.set b' o) := fun o => Ext.new hb'
        have hpl := po.1
        rw [List.length_take] at hpl
        have hnl : strLt (xs[j]).1 k = false := by
          simp only [Bool.or_eq_true, decide_eq_true_eq] at d
          rcases d with d | d
          · exact lt_asym d
          · rw [← d]; exact lt_irr _
        refine papp (ys := [(k, v)]) (hg.trans (eb _)) (po.ext (eb _)) (src_new (Hp.set_same _ _ _) rfl) (by omega) fun a'' c'' h'' e'' o'' _ => half _ _ _ _ _ _ e'' o'' (by rw [List.length_append, List.length_take, List.length_singleton]; omega) (fun hne => .inr ⟨rfl, ⟨xs[j], (by rw [htk]; exact List.mem_append_right _ (List.mem_singleton.2 rfl)), hnl⟩, ?_⟩) fun heq => ⟨rfl, ⟨xs[j], (by rw [htk]; exact List.mem_append_right _ (List.mem_singleton.2 rfl)), hnl⟩, ?_⟩
        · rw [htk, Tr.kset_right hall]
          simp only [kset]
          rw [if_pos (lt_tot hne hnl)]
          simp
        · rw [htk, Tr.kset_right hall]
          simp only [kset]
          rw [if_neg (by rw [heq, lt_irr]; simp), if_pos heq.symm]
      · have hlt2 : strLt (xs[j]).1 k = true := by
          simp only [Bool.or_eq_false_iff, decide_eq_false_iff_not] at d
          exact lt_tot d.2 d.1
        refine half _ _ _ _ _ _ hg po (by rw [List.length_take]; omega) (fun _ => .inl ⟨rfl, fun y hy => ?_, htk.symm⟩) fun heq => absurd heq (lt_ne hlt2)
        rw [htk] at hy
        rcases List.mem_append.1 hy with hy | hy
        · exact hall y hy
        · simp at hy; subst hy; exact hlt2
    · refine bsF rfl ?_
      have hgt : strLt k (xs[j]).1 = true := by
        by_cases e : y.1 = k
        · rw [← e]; exact hrj y hy
        · exact lt_tr (lt_tot e hyk) (hrj y hy)
      refine half _ _ _ _ _ _ hg po (by omega) (fun _ => .inr ⟨rfl, ⟨y, (by rw [htk]; exact List.mem_append_left _ hy), hyk⟩, ?_⟩) fun heq => absurd heq (lt_ne hgt).symm
      rw [htk, kset_done ⟨y, hy, hyk⟩]
  · have cf : j = l := by have := of_decide_eq_false cf; omega
    subst cf
    have hxs : xs.take j = xs := List.take_of_length_le (by omega)
    rw [hxs] at inv
    rcases inv with ⟨rfl, hall, po⟩ | ⟨rfl, _, po⟩
    · refine bsT rfl fun b' hb' => ?_
      have eb : ∀ o, Ext g (g.set b' o) := fun o => Ext.new hb'
      refine papp (ys := [(k, v)]) (hg.trans (eb _)) (po.ext (eb _)) (src_new (Hp.set_same _ _ _) rfl) (by have := po.1; omega) fun a'' c'' h'' e'' o'' _ => ⟨_, _, _, rfl, e'', ?_⟩
      have : kset xs k v = xs ++ [(k, v)] := by
        have := Tr.kset_right (b := []) (v := v) hall
        rw [List.append_nil] at this
        rw [this]; rfl
      rw [this]; exact o''
    · exact bsF rfl ⟨_, _, _, rfl, hg, po⟩

theorem ok_rPut {x : Nd} (hx : x.ok) (h : Hp) : FnH Tryd.prog N_flintref15_Put #[.agg x.vals.toArray] h fun r h' => r = .string (bOf x.bytes) ∧ Ext h h' := by
  refine F_flintref15_Put.calls x.k x.l x.s x.p h _ ?_
  unfold F_flintref15_Put
  intro b hb
  have hk : ((x.k : Nat) : Int) = ((UInt8.ofNat x.k).toNat : Int) := by have := hx.k; simp; omega
  rw [hk]
  have e0 := Ext.new (h := h) (o := .cells #[.int .u8 ((UInt8.ofNat x.k).toNat : Int)] T_uint8) hb
  rw [wrap64_id hx.l, wrap64_id hx.s, wrap64_id hx.p]
  have hl := hx.l; have hs := hx.s; have hp := hx.p
  refine (ok_put3 (l := 1) (c := 1) (BSl.fresh (s := [UInt8.ofNat x.k]) rfl) 4 x.l (by omega) (by omega) (by omega) (by omega)).mono ?_
  rintro _ h1 ⟨a1, c1, rfl, e1, o1⟩
  refine ⟨_, _, _, rfl, ?_⟩
  refine (ok_put3 o1.bsl 4 x.s (by omega) (by omega) (by omega) (by omega)).mono ?_
  rintro _ h2 ⟨a2, c2, rfl, e2, o2⟩
  refine ⟨_, _, _, rfl, ?_⟩
  refine (ok_put3 o2.bsl 4 x.p (by omega) (by omega) (by omega) (by omega)).mono ?_
  rintro _ h3 ⟨a3, c3, rfl, e3, o3⟩
  refine ⟨_, _, _, rfl, _, o3.bsl.bytes, ?_, ((e0.trans e1).trans e2).trans e3⟩
  simp [Nd.bytes]

theorem ok_rSave {h : Hp} {a : Option Addr} {l c : Nat} {xs : KV} (hs : PSl h a l c xs) (hr : Rise xs) (hl : l < 100000000) (n : Nat) (hn : n < 4294967296) {x : Nd} (hx : x.ok) :
    FnH Tryd.prog N_flintref17_Save #[.slice a l c, .int .u32 n, .agg x.vals.toArray] h fun r h' => ∃ a' l' c', r = .slice a' l' c' ∧ Ext h h' ∧ POut h h' a' l' c' (kset xs (kI n) (bOf x.bytes)) := by
  refine F_flintref17_Save.calls a l c n x.k x.l x.s x.p h _ ?_
  unfold F_flintref17_Save
  refine ⟨fun _ => True, trivial, ?_⟩
  refine (ok_kI3 n hn h).mono ?_
  rintro _ h1 ⟨rfl, e1⟩
  refine ⟨_, rfl, trivial, ?_⟩
  refine (ok_rPut hx h1).mono ?_
  rintro _ h2 ⟨rfl, e2⟩
  refine ⟨_, rfl, trivial, ?_⟩
  have e := e1.trans e2
  refine (ok_rSet (hs.ext e) hr hl (kI n) (bOf x.bytes)).mono ?_
  rintro _ h3 ⟨a', l', c', rfl, e3, po⟩
  exact ⟨_, _, _, rfl, a', l', c', rfl, e.trans e3, po.1, po.2.weaken fun b hb => e.none hb⟩

theorem ok_rHang {h : Hp} {a : Option Addr} {l c : Nat} {xs : KV} (hs : PSl h a l c xs) (hr : Rise xs) (hl : l < 100000000) (d : Nat) (hd : d < 4294967296) (s : ByteArray) (hz : s.size ≤ 32) (n : Nat) (hn : n < 4294967296) :
    FnH Tryd.prog N_flintref17_Hang #[.slice a l c, .int .u32 d, .string s, .int .u32 n] h fun r h' => ∃ a' l' c', r = .slice a' l' c' ∧ Ext h h' ∧ POut h h' a' l' c' (kset xs (kE d s) (bOf (be 4 n))) := by
  refine F_flintref17_Hang.calls a l c d s n h _ ?_
  unfold F_flintref17_Hang
  refine (ok_kE3 d hd s hz h).mono ?_
  rintro _ h1 ⟨rfl, e1⟩
  refine ⟨_, rfl, fun b hb => ?_⟩
  have e2 := Ext.new (h := h1) (o := .cells #[] T_uint8) hb
  rw [wrap64_id hn]
  have h0 : BSl T_uint8 (h1.set b (.cells #[] T_uint8)) (some ⟨b, 0, none⟩) 0 0 [] := ⟨rfl, Nat.le_refl _, .inl rfl⟩
  refine (ok_put3 h0 4 n (by omega) (by omega) (by omega) (by omega)).mono ?_
  rintro _ h2 ⟨a2, c2, rfl, e3, o2⟩
  refine ⟨_, _, _, rfl, _, o2.bsl.bytes, ?_⟩
  have e := (e1.trans e2).trans e3
  rw [List.nil_append]
  refine (ok_rSet (hs.ext e) hr hl (kE d s) (bOf (be 4 n))).mono ?_
  rintro _ h3 ⟨a', l', c', rfl, e4, po⟩
  exact ⟨_, _, _, rfl, a', l', c', rfl, e.trans e4, po.1, po.2.weaken fun b hb => e.none hb⟩

theorem ok_VReads {h : Hp} {v : Nat} {V : VS} (hv : VAt h v V) {m : Nat} (hm : V.le m) (hs : m < 100000000) :
    FnH Tryd.prog N_view_View_Reads #[.pointer (some ⟨v, 0, none⟩)] h fun r h' => ∃ a n c, r = .slice a n c ∧ Ext h h' ∧ SOut h h' a n c (V.reads.map Prod.fst) := by
  refine F_view_View_Reads.calls _ h _ ?_
  unfold F_view_View_Reads
  obtain ⟨p1, p2, p3, p4, ra, rc, hb, m1, m2, m3, m4, r⟩ := hv
  refine bsF rfl (pS ⟨_, at_cellI hb rfl, ?_⟩)
  have hrl := hm.reads
  refine (ok_Vall m4 (by omega)).mono ?_
  rintro _ h1 ⟨a, n, c, rfl, e1, po⟩
  have hpl := po.1
  refine ⟨_, _, _, rfl, ?_⟩
  refine ⟨fun m' a' l' c' i g => ∃ j : Nat, i = j ∧ m' + j = n ∧ l' = j ∧ j ≤ n ∧ Ext h1 g ∧ SOut h1 g a' j c' ((V.reads.take j).map Prod.fst), ⟨n, 0, rfl, rfl, rfl, by omega, Ext.refl, SOut.nil⟩, ?_⟩
  rintro m' a' l' c' i g ⟨j, rfl, hm', rfl, hj, hg, so⟩
  refine bs (fun ct => ?_) fun cf => ?_
  · have ct : l' < n := by have := of_decide_eq_true ct; omega
    have hlt : l' < V.reads.length := by omega
    obtain ⟨p, rfl, hp⟩ := (po.ext hg).at hlt
    refine ⟨by omega, by omega, pS ⟨_, _, _, hp, fun b hb => ?_⟩⟩
    have eb : ∀ o, Ext g (g.set b o) := fun o => Ext.new hb
    refine sapp (ys := [(V.reads[l']).1]) (hg.trans (eb _)) (so.ext (eb _)) (src_new (Hp.set_same _ _ _) rfl) (by omega) fun a'' c'' h'' e'' o'' _ => ⟨by unfold I64; omega, m' - 1, by omega, l' + 1, by omega, by omega, rfl, by omega, e'', ?_⟩
    rw [List.take_add_one, List.getElem?_eq_getElem hlt, Option.toList_some, List.map_append, List.map_singleton]
    exact o''
  · have cf : l' = n := by have := of_decide_eq_false cf; omega
    subst cf
    rw [List.take_of_length_le (by omega)] at so
    exact ⟨_, _, _, rfl, e1.trans hg, so.1, so.2.weaken fun b hb => e1.none hb⟩

theorem beq_nat {a b : Nat} (h : ((a : Int) == (b : Int)) = true) : a = b := by
  have := eq_of_beq h
  omega

/-- The names of a directory's entries, as the references see them. -/
def rnms (l : KV) (d : Nat) : List ByteArray := l.flatMap fun p => if (keyParts p.1.data.toList).1 = 69 ∧ (keyParts p.1.data.toList).2.1 = d then [bOf (keyParts p.1.data.toList).2.2.1] else []

theorem rnms_len (l : KV) (d : Nat) : (rnms l d).length ≤ l.length := by
  induction l with
  | nil => simp [rnms]
  | cons a l ih =>
    unfold rnms at ih ⊢
    rw [List.flatMap_cons, List.length_append, List.length_cons]
    split
    · rw [List.length_singleton]; omega
    · rw [List.length_nil]; omega

theorem ok_rList {h : Hp} {a : Option Addr} {l c : Nat} {xs : KV} (hs : PSl h a l c xs) (hl : l < 100000000) (hz : ∀ x ∈ xs, x.1.size < 1000000000) (d : Nat) :
    FnH Tryd.prog N_flintref17_List #[.slice a l c, .int .u32 d] h fun r h' => ∃ a' l' c', r = .slice a' l' c' ∧ Ext h h' ∧ SOut h h' a' l' c' (rnms xs d) := by
  refine F_flintref17_List.calls a l c d h _ ?_
  unfold F_flintref17_List
  intro b0 hb0
  have e0 := Ext.new (h := h) (o := .cells #[] T_string) hb0
  have hxl := hs.1
  refine ⟨fun m a' l' c' i g => ∃ j : Nat, i = j ∧ m + j = l ∧ j ≤ l ∧ Ext h g ∧ SOut h g a' l' c' (rnms (xs.take j) d), ⟨l, 0, rfl, by omega, by omega, e0, rfl, Out.empty⟩, ?_⟩
  rintro m a' l' c' i g ⟨j, rfl, hm, hj, hg, so⟩
  refine bs (fun ct => ?_) fun cf => ?_
  · have ct : j < l := by have := of_decide_eq_true ct; omega
    have hlt : j < xs.length := by omega
    obtain ⟨p, rfl, hp⟩ := (hs.ext hg).at hlt
    refine ⟨by omega, by omega, pS ⟨_, hp.sub (i := 0) rfl, ?_⟩⟩
    refine (ok_rSplit (xs[j]).1 (hz _ (List.getElem_mem hlt)) g).mono ?_
    rintro _ g1 ⟨rfl, e1⟩
    have hg1 := hg.trans e1
    have htk : rnms (xs.take (j + 1)) d = rnms (xs.take j) d ++ (if (keyParts (xs[j]).1.data.toList).1 = 69 ∧ (keyParts (xs[j]).1.data.toList).2.1 = d then [bOf (keyParts (xs[j]).1.data.toList).2.2.1] else []) := by
      unfold rnms
      rw [List.take_add_one, List.getElem?_eq_getElem hlt, List.flatMap_append]
      simp
    have stay : ∀ n : Nat, (keyParts (xs[j]).1.data.toList).1 = n → ¬ (n = 69 ∧ (keyParts (xs[j]).1.data.toList).2.1 = d) → I64 ((j : Int) + 1) ∧ ∃ k10, k10 < m ∧ ∃ j' : Nat, ((j : Int) + 1) = j' ∧ k10 + j' = l ∧ j' ≤ l ∧ Ext h g1 ∧ SOut h g1 a' l' c' (rnms (xs.take j') d) := by
      intro n hn hne
      refine ⟨by unfold I64; omega, m - 1, by omega, j + 1, by omega, by omega, by omega, hg1, ?_⟩
      rw [htk, hn, if_neg hne, List.append_nil]
      exact so.ext e1
    refine ⟨_, _, _, _, rfl, bs (fun f1 => bs (fun f2 => ?_) fun f2 => ?_) fun f1 => ?_⟩
    · have f1 : (keyParts (xs[j]).1.data.toList).1 = 69 := beq_nat f1
      have f2 : (keyParts (xs[j]).1.data.toList).2.1 = d := beq_nat f2
      intro b hb
      have eb : ∀ o, Ext g1 (g1.set b o) := fun o => Ext.new hb
      have hsl := so.1
      have hrl := rnms_len (xs.take j) d
      rw [List.length_take] at hrl
      refine sapp (ys := [bOf (keyParts (xs[j]).1.data.toList).2.2.1]) (hg1.trans (eb _)) ((so.ext e1).ext (eb _)) (src_new (Hp.set_same _ _ _) rfl) (by omega) fun a'' c'' h'' e'' o'' _ => ⟨by unfold I64; omega, m - 1, by omega, j + 1, by omega, by omega, by omega, e'', ?_⟩
      rw [htk, if_pos ⟨f1, f2⟩]
      exact o''
    · exact stay _ rfl fun hh => by rw [hh.2] at f2; simp at f2
    · exact stay _ rfl fun hh => by rw [hh.1] at f1; cases f1
  · have cf : j = l := by have := of_decide_eq_false cf; omega
    subst cf
    rw [List.take_of_length_le (by omega)] at so
    exact ⟨_, _, _, rfl, hg, so⟩

end Go.Proofs.YtkhfofnglkekoaaDoor
