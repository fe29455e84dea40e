/- Contracts, part X: walk's lists and paths; what a view read. Conditions: none. -/
import Derived.Test.YtkhfofnglkekoaaDoorCtW
namespace Go.Proofs.YtkhfofnglkekoaaDoor

theorem VAt.rise {h : Hp} {v : Nat} {V : VS} (x : VAt h v V) : Rise V.base ∧ Rise V.shown ∧ Rise V.writes ∧ Rise V.reads := by
  obtain ⟨p1, p2, p3, p4, ra, rc, hv, ⟨_, _, _, m1⟩, ⟨_, _, _, m2⟩, ⟨_, _, _, m3⟩, ⟨_, _, _, m4⟩, r⟩ := x
  exact ⟨m1, m2, m3, m4⟩

theorem VS.le.read {V : VS} {n : Nat} (h : V.le n) (k : ByteArray) : ({ V with reads := kset V.reads k E0 } : VS).le (n + 1) :=
  ⟨Nat.le_succ_of_le h.base, Nat.le_succ_of_le h.shown, Nat.le_succ_of_le h.writes, Nat.le_trans (kset_len _ _ _) (Nat.succ_le_succ h.reads), Nat.le_succ_of_le h.nr⟩
theorem VS.le.set {V : VS} {n : Nat} (h : V.le n) (k s : ByteArray) : (V.set k s).le (n + 1) :=
  ⟨Nat.le_succ_of_le h.base, Nat.le_trans (kset_len _ _ _) (Nat.succ_le_succ h.shown), Nat.le_trans (kset_len _ _ _) (Nat.succ_le_succ h.writes), Nat.le_succ_of_le h.reads, Nat.le_succ_of_le h.nr⟩
theorem VS.le.cut {V : VS} {n : Nat} (h : V.le n) (k : ByteArray) : (V.cut k).le (n + 1) := by
  refine ⟨Nat.le_succ_of_le h.base, Nat.le_trans (kcut_len _ _) (Nat.le_succ_of_le h.shown), ?_, Nat.le_succ_of_le h.reads, Nat.le_succ_of_le h.nr⟩
  show (if (kget V.base k).isSome then kset V.writes k E0 else kcut V.writes k).length ≤ n + 1
  split
  · exact Nat.le_trans (kset_len _ _ _) (Nat.succ_le_succ h.writes)
  · exact Nat.le_trans (kcut_len _ _) (Nat.le_succ_of_le h.writes)

/-- A slice of texts of one's own. -/
def SOut (h0 h : Hp) (a : Option Addr) (l c : Nat) (xs : List ByteArray) : Prop := xs.length = l ∧ Out h0 h T_string 1 a l c (sv xs)
theorem SOut.nil {h0 h : Hp} : SOut h0 h none 0 0 [] := ⟨rfl, Out.nil⟩
theorem SOut.ext {h0 h h' : Hp} {a : Option Addr} {l c : Nat} {xs : List ByteArray} (e : Ext h h') (p : SOut h0 h a l c xs) : SOut h0 h' a l c xs := ⟨p.1, p.2.ext e⟩
theorem SOut.ssl {h0 h : Hp} {a : Option Addr} {l c : Nat} {xs : List ByteArray} (p : SOut h0 h a l c xs) : SSl h a l c xs := ⟨p.1, p.2.1⟩

theorem sapp {h0 h : Hp} {a : Option Addr} {l c : Nat} {xs ys : List ByteArray} {x : Value} {n : Nat} {K : Option Addr → Nat → Nat → Hp → Prop} (ex : Ext h0 h) (ho : SOut h0 h a l c xs) (hx : SrcIs h 1 x n (sv ys)) (hb : l + n < 1000000000)
    (hK : ∀ a' c' h', Ext h0 h' → SOut h0 h' a' (l + n) c' (xs ++ ys) → Chg h0 a h h' → K a' (l + n) c' h') : HApp (tyOf T_string) T_string h a l c x K := by
  have hn : ys.length = n := by have := src_len hx; rw [sv_len] at this; omega
  refine happ (t := tyOf T_string) ex ho.2 hx (sv_leaf _) (by decide) rfl ?_ fun a' c' h' e o g => hK a' c' h' e ⟨by rw [List.length_append, ho.1, hn], by rw [sv_app]; exact o⟩ g
  have : (tyOf T_string).bytes = 16 := rfl
  rw [this]; omega

theorem POut.at {h0 h : Hp} {a : Option Addr} {l c : Nat} {xs : KV} (s : POut h0 h a l c xs) {i : Nat} (hi : i < xs.length) : ∃ p, a = some p ∧ At h (p.add (i * 3)) [.string xs[i].1, .string xs[i].2, .bool false] := by
  have h2 : Sl h T_api_Pair 3 a l c (xs.flatMap fun (p : ByteArray × ByteArray) => [Value.string p.1, Value.string p.2, Value.bool false]) := s.2.1
  exact h2.atF (xs := xs) (f := fun p => [Value.string p.1, Value.string p.2, Value.bool false]) (fun _ => rfl) (by decide) (by have := s.1; omega) hi

/-! Entries. -/
theorem keyOf_bump (n : Nat) : ∃ p', bumpF (keyOf 69 n) = some p' := by
  obtain ⟨q, b, k, hq, hb⟩ := bump_split 69 (be 4 n) (by decide)
  have : keyOf 69 n = q ++ b :: List.replicate k 255 := hq
  rw [this, bumpF_mid q b k hb]
  exact ⟨_, rfl⟩

theorem kE0_list (n : Nat) : (kE n E0).data.toList = keyOf 69 n := by
  rw [kE, bOf_list, show E0.data.toList = [] from rfl, List.append_nil]

/-- A key stands among a directory's entries, if it begins so. -/
theorem in_entries (n : Nat) (k : ByteArray) : (strLt k (kE n E0) = false ∧ strLt k (kEnd n) = true) ↔ ∃ t, k.data.toList = keyOf 69 n ++ t := by
  obtain ⟨p', hp⟩ := keyOf_bump n
  have e2 : (kEnd n).data.toList = p' := by rw [kEnd, hp, bOf_list]; rfl
  unfold strLt
  rw [toL, toL, toL, kE0_list, e2]
  exact bump_some _ _ _ hp

theorem entries_lt (n : Nat) : strLt (kE n E0) (kEnd n) = true := ((in_entries n (kE n E0)).2 ⟨[], by rw [kE0_list, List.append_nil]⟩).2

/-- The names of a directory's entries. -/
def nms (l : KV) (n : Nat) : List ByteArray := (krange l (kE n E0) (kEnd n)).map fun p => p.1.extract 5 p.1.size

theorem ok_WList {h : Hp} {v : Nat} {V : VS} (hv : VAt h v V) (n : Nat) (hn : n < 4294967296) {m : Nat} (hm : V.le m) (hs : m < 100000000) :
    FnH Tryd.prog N_walk_List #[.pointer (some ⟨v, 0, none⟩), .int .u32 n] h fun r h' => ∃ nr rb a l c, r = .slice a l c ∧ nr ≤ V.nr + 1 ∧ VK v V.rb rb h h' ∧ VAt h' v { V with nr := nr, rb := rb } ∧ SOut h h' a l c (nms V.shown n) := by
  refine F_walk_List.calls _ n h _ ?_
  unfold F_walk_List
  refine (ok_kEs n hn h).mono ?_
  rintro _ h1 ⟨rfl, e1⟩
  refine ⟨_, _, rfl, ?_⟩
  refine (ok_VRange (hv.ext e1) (kE n E0) (kEnd n) (entries_lt n) hm hs).mono ?_
  rintro _ h2 ⟨nr, rb, q, l, c, rfl, hnr, vk, hv2, po⟩
  have vk' : VK v V.rb rb h h2 := VK.trans (hv.ext e1).ne (VK.ext e1) vk
  refine ⟨_, _, _, rfl, ?_⟩
  have hkl := krange_len V.shown (kE n E0) (kEnd n)
  have hsh := hm.shown
  have hpl := po.1
  generalize hK : krange V.shown (kE n E0) (kEnd n) = K at *
  have hpre : ∀ x ∈ K, ∃ t, x.1.data.toList = keyOf 69 n ++ t := by
    intro x hx
    rw [← hK] at hx
    have := (List.mem_filter.1 hx).2
    simp only [Bool.and_eq_true, Bool.not_eq_true'] at this
    exact (in_entries n x.1).1 this
  have s5 : (kE n E0).size = 5 := by rw [size_list, kE0_list, keyOf_len]
  -- the list, out of h2
  refine ⟨fun m' a' l' c' i g => ∃ k : Nat, i = k ∧ m' + k = l ∧ k ≤ l ∧ l' = k ∧ Ext h2 g ∧ SOut h2 g a' k c' ((K.take k).map fun p => p.1.extract 5 p.1.size), ⟨l, 0, rfl, rfl, by omega, rfl, Ext.refl, SOut.nil⟩, ?_⟩
  rintro m' a' l' c' i g ⟨k, rfl, hm', hkl', rfl, hg, so⟩
  refine bs (fun ct => ?_) fun cf => ?_
  · have ct : l' < l := by have := of_decide_eq_true ct; omega
    have hlt : l' < K.length := by omega
    obtain ⟨p, rfl, hp⟩ := (po.ext hg).at hlt
    obtain ⟨t, ht⟩ := hpre K[l'] (List.getElem_mem hlt)
    have hsz : 5 ≤ (K[l']).1.size := by rw [size_list, ht, List.length_append, keyOf_len]; omega
    refine ⟨by omega, by omega, pS ⟨_, _, _, hp, by omega, by omega, by omega, fun b hb => ?_⟩⟩
    have eb := Ext.new (h := g) (o := .cells #[.string (ByteArray.extract (K[l']).1 (Int.toNat ((kE n E0).size : Int)) (Int.toNat ((K[l']).1.size : Int)))] T_string) hb
    refine sapp (ys := [ByteArray.extract (K[l']).1 (Int.toNat ((kE n E0).size : Int)) (Int.toNat ((K[l']).1.size : Int))]) (hg.trans eb) (so.ext eb) (src_new (Hp.set_same _ _ _) rfl) (by omega) fun a'' c'' h'' e'' o'' _ => ⟨by unfold I64; omega, m' - 1, by omega, l' + 1, by omega, by omega, by omega, rfl, e'', ?_⟩
    rw [List.take_add_one, List.getElem?_eq_getElem hlt, Option.toList_some, List.map_append, List.map_singleton]
    have e5 : Int.toNat ((kE n E0).size : Int) = 5 := by omega
    have e6 : Int.toNat ((K[l']).1.size : Int) = (K[l']).1.size := by omega
    rw [e5, e6] at o''
    exact o''
  · have cf : l' = l := by have := of_decide_eq_false cf; omega
    subst cf
    refine ⟨nr, rb, a', _, c', rfl, hnr, VK.trans hv2.ne vk' (VK.ext hg), hv2.ext hg, ?_⟩
    have : (K.take l').map (fun p => p.1.extract 5 p.1.size) = nms V.shown n := by
      unfold nms
      rw [hK, List.take_of_length_le (by omega)]
    rw [this] at so
    refine ⟨so.1, so.2.1, so.2.2.imp id ?_⟩
    rintro ⟨b, o, cs, f1, f2, f3, f4⟩
    refine ⟨b, o, cs, f1, ?_, f3, f4⟩
    cases hx : h b with
    | none => rfl
    | some ob =>
      exfalso
      exact vk'.dom b (by rw [hx]; simp) f2

/-! What was read. -/
def has (l : KV) (k : ByteArray) : Prop := (kget l k).isSome = true
theorem has_set {l : KV} (hl : Rise l) (k v j : ByteArray) : has (kset l k v) j ↔ k = j ∨ has l j := by
  unfold has
  rw [kget_kset hl]
  by_cases h : k = j
  · simp [h]
  · simp [h]

/-- Of what a path came through the keys were read. -/
def Through (rd : KV) (t : Spt) : Prop := has rd (kI 1) ∧ (t.name ≠ E0 → has rd (kE t.dir t.name)) ∧ (t.ino ≠ 0 → has rd (kI t.ino)) ∧ (t.dir ≠ 0 → has rd (kI t.dir))

theorem pathNames_ok {p : List UInt8} (h : (pathNames p).1 = 0) : (pathNames p).2.length ≤ 16 ∧ ∀ s ∈ (pathNames p).2, nameOk s = true := by
  unfold pathNames at h ⊢
  split at h
  · cases h
  · split at h
    · cases h
    · split at h
      · rename_i h1 h2 h3
        rw [if_neg h1, if_neg h2, if_pos h3]
        simp
      · split at h
        · rename_i h1 h2 h3 h4
          rw [if_neg h1, if_neg h2, if_neg h3, if_pos h4]
          exact ⟨h4.1, fun s hs => List.all_eq_true.1 h4.2 s hs⟩
        · cases h
theorem nameOk_len {s : List UInt8} (h : nameOk s = true) : s ≠ [] ∧ s.length ≤ 32 := by
  unfold nameOk at h
  simp only [Bool.and_eq_true, Bool.not_eq_true', decide_eq_false_iff_not, decide_eq_true_eq] at h
  exact ⟨h.2.1, h.2.2.1⟩

theorem map_bOf {xs : List ByteArray} {ys : List (List UInt8)} (h : xs.map (fun x => x.data.toList) = ys) : ys.map bOf = xs := by
  rw [← h, List.map_map]
  conv => rhs; rw [← List.map_id xs]
  refine List.map_congr_left fun x _ => ?_
  simp [Function.comp, bOf_self]

theorem findL_cons (l : KV) (t : Spt) (s : ByteArray) (r : List ByteArray) : findL l t (s :: r) = if t.ino = 0 then (10, Spt.zero) else if t.node.k ≠ 2 then (12, Spt.zero) else findL l (stepTo l t s) r := rfl

theorem findL_err (l : KV) : ∀ (t : Spt) (xs : List ByteArray), (findL l t xs).1 = 0 ∨ (findL l t xs).2 = Spt.zero
  | t, [] => .inl rfl
  | t, s :: r => by
    unfold findL
    split
    · exact .inr rfl
    · split
      · exact .inr rfl
      · exact findL_err l _ r

theorem ok_WFind {h : Hp} {v : Nat} {V : VS} (hv : VAt h v V) (hsm : Small V.shown) (p : ByteArray) (hp : p.size < 1000000000) {m : Nat} (hm : V.le m) (hs : m < 90000000) :
    FnH Tryd.prog N_walk_Find #[.pointer (some ⟨v, 0, none⟩), .string p] h fun r h' => ∃ rd, r = .tuple #[.agg (find V.shown p).2.vals.toArray, .int .i64 ((find V.shown p).1 : Nat)] ∧ VK v V.rb V.rb h h' ∧ VAt h' v { V with reads := rd } ∧ rd.length ≤ V.reads.length + 40 ∧
      ((pathNames p.data.toList).1 = 0 → has rd (kI 1) ∧ ((find V.shown p).1 = 0 → Through rd (find V.shown p).2)) ∧ ((pathNames p.data.toList).1 ≠ 0 → rd = V.reads) := by
  refine F_walk_Find.calls _ p h _ ?_
  unfold F_walk_Find
  refine (ok_Split p hp h).mono ?_
  rintro _ h1 ⟨a, l, c, xs, rfl, e1, ss, hxs⟩
  refine ⟨_, _, _, _, rfl, ?_⟩
  unfold find
  refine bs (fun ct => ?_) fun cf => ?_
  · have ct : (pathNames p.data.toList).1 ≠ 0 := by intro e; rw [e] at ct; cases ct
    rw [if_pos ct]
    exact ⟨V.reads, rfl, VK.ext e1, hv.ext e1, by omega, fun h => absurd h ct, fun _ => rfl⟩
  · have cf : (pathNames p.data.toList).1 = 0 := by
      have : (((pathNames p.data.toList).1 : Nat) : Int) = 0 := by simpa using cf
      omega
    rw [if_neg (fun h => h cf), map_bOf hxs]
    obtain ⟨hlen, hnames⟩ := pathNames_ok cf
    have hxl : xs.length ≤ 16 := by
      have := congrArg List.length hxs
      rw [List.length_map] at this
      omega
    have hnm : ∀ x ∈ xs, x.size ≤ 32 ∧ x ≠ E0 := by
      intro x hx
      have := nameOk_len (hnames x.data.toList (by rw [← hxs]; exact List.mem_map.2 ⟨x, hx, rfl⟩))
      refine ⟨by rw [size_list]; exact this.2, ?_⟩
      rintro rfl
      exact this.1 rfl
    have sl := ss.1
    refine (ok_WLoad (hv.ext e1) hsm 1 (by omega) hm (by omega)).mono ?_
    rintro _ h2 ⟨rfl, k2, v2⟩
    have vk2 : VK v V.rb V.rb h h2 := VK.trans (hv.ext e1).ne (VK.ext e1) k2
    refine ⟨_, _, _, _, _, rfl, ?_⟩
    have hr0 := hv.rise
    have hex2 : ∀ b o, h1 b = some o → b ≠ v → V.rb ≠ some b → h2 b = some o := k2.keep
    -- the names stay
    have ssk : ∀ {g : Hp}, VK v V.rb V.rb h1 g → SSl g a l c xs := fun {g} k => ⟨ss.1, ss.2.ke (VK.ke (hv.ext e1) k) rfl⟩
    refine ⟨fun m' i _ _ _ _ _ _ _ d nm ino k2 l2 s2 p2 g => ∃ (j : Nat) (t : Spt) (rd : KV), i = j ∧ m' + j = l ∧ j ≤ l ∧ d = t.dir ∧ nm = t.name ∧ ino = t.ino ∧ k2 = t.node.k ∧ l2 = t.node.l ∧ s2 = t.node.s ∧ p2 = t.node.p ∧ t.ok ∧
      findL V.shown (Spt.root V.shown) xs = findL V.shown t (xs.drop j) ∧ VK v V.rb V.rb h1 g ∧ VAt g v { V with reads := rd } ∧ rd.length ≤ V.reads.length + 1 + 2 * j ∧ Through rd t, ?_, ?_⟩
    · refine ⟨l, 0, Spt.root V.shown, kset V.reads (kI 1) E0, rfl, rfl, by omega, rfl, rfl, rfl, rfl, rfl, rfl, rfl, root_ok _, rfl, k2, v2, kset_len _ _ _, ?_⟩
      have : has (kset V.reads (kI 1) E0) (kI 1) := (has_set hr0.2.2.2 _ _ _).2 (.inl rfl)
      exact ⟨this, fun h => absurd rfl h, fun _ => this, fun h => absurd rfl h⟩
    · rintro m' i _ _ _ _ _ _ _ d nm ino k3 l3 s3 p3 g ⟨j, t, rd, rfl, hm', hjl, rfl, rfl, rfl, rfl, rfl, rfl, rfl, tok, hf, kg, vg, hrl, hth⟩
      have rise := vg.rise.2.2.2
      have fin : ∀ (R : Nat × Spt), findL V.shown (Spt.root V.shown) xs = R → (R.1 = 0 → Through rd R.2) → ∃ rd_1, (Value.tuple #[.agg R.2.vals.toArray, .int .i64 (R.1 : Nat)]) = .tuple #[.agg (findL V.shown (Spt.root V.shown) xs).2.vals.toArray, .int .i64 ((findL V.shown (Spt.root V.shown) xs).1 : Nat)] ∧ VK v V.rb V.rb h g ∧ VAt g v { V with reads := rd_1 } ∧ rd_1.length ≤ V.reads.length + 40 ∧
          ((pathNames p.data.toList).1 = 0 → has rd_1 (kI 1) ∧ ((findL V.shown (Spt.root V.shown) xs).1 = 0 → Through rd_1 (findL V.shown (Spt.root V.shown) xs).2)) ∧ ((pathNames p.data.toList).1 ≠ 0 → rd_1 = V.reads) := by
        intro R hR ht
        rw [hR]
        exact ⟨rd, rfl, VK.trans (hv.ext e1).ne (VK.ext e1) kg, vg, by omega, fun _ => ⟨hth.1, ht⟩, fun h => absurd cf h⟩
      refine bs (fun ct => ?_) fun cf2 => ?_
      · have ct : j < l := by have := of_decide_eq_true ct; omega
        have hjx : j < xs.length := by omega
        obtain ⟨pp, rfl, hpp⟩ := (ssk kg).at hjx
        have hdrop : xs.drop j = xs[j] :: xs.drop (j + 1) := List.drop_eq_getElem_cons hjx
        rw [hdrop, findL_cons] at hf
        obtain ⟨n1, n2⟩ := hnm _ (List.getElem_mem hjx)
        refine ⟨by omega, by omega, pS ⟨_, hpp, bs (fun d1 => ?_) fun d1 => bs (fun d2 => ?_) fun d2 => ?_⟩⟩
        · have d1 : t.ino = 0 := by have : (t.ino : Int) = 0 := by simpa using d1
                                    omega
          rw [if_pos d1] at hf
          exact fin (10, Spt.zero) (by rw [hf]) (fun h => by cases h)
        · have d1 : t.ino ≠ 0 := by intro e; rw [e] at d1; cases d1
          have d2 : t.node.k ≠ 2 := by intro e; rw [e] at d2; cases d2
          rw [if_neg d1, if_pos d2] at hf
          exact fin (12, Spt.zero) (by rw [hf]) (fun h => by cases h)
        · have d1 : t.ino ≠ 0 := by intro e; rw [e] at d1; cases d1
          have d2 : ¬ t.node.k ≠ 2 := by
            have : (t.node.k : Int) = 2 := by simpa using d2
            omega
          rw [if_neg d1, if_neg d2] at hf
          have hle : ({ V with reads := rd } : VS).le (m + 40) := ⟨by have := hm.base; show V.base.length ≤ _; omega, by have := hm.shown; show V.shown.length ≤ _; omega, by have := hm.writes; show V.writes.length ≤ _; omega, by have := hm.reads; show rd.length ≤ _; omega, by have := hm.nr; show V.nr ≤ _; omega⟩
          refine (ok_WChild vg hsm t.ino tok.ino xs[j] n1 hle (by omega)).mono ?_
          rintro _ h4 ⟨rfl, k4, v4⟩
          have kg4 : VK v V.rb V.rb h1 h4 := VK.trans vg.ne kg k4
          refine ⟨_, _, rfl, ?_⟩
          have th4 : Through (kset rd (kE t.ino xs[j]) E0) ⟨t.ino, xs[j], 0, Nd.zero⟩ :=
            ⟨(has_set rise _ _ _).2 (.inr hth.1), fun _ => (has_set rise _ _ _).2 (.inl rfl), fun h => absurd rfl h, fun h => (has_set rise _ _ _).2 (.inr (hth.2.2.1 h))⟩
          have base : ∀ (g' : Hp) (rd' : KV), stepTo V.shown t xs[j] = ⟨t.ino, xs[j], 0, Nd.zero⟩ → VK v V.rb V.rb h1 g' → VAt g' v { V with reads := rd' } → rd'.length ≤ V.reads.length + 1 + 2 * (j + 1) → Through rd' ⟨t.ino, xs[j], 0, Nd.zero⟩ →
              ∃ k32, k32 < m' ∧ ∃ (j_1 : Nat) (t_1 : Spt) (rd_1 : KV), ((j : Nat) : Int) + 1 = j_1 ∧ k32 + j_1 = l ∧ j_1 ≤ l ∧ (t.ino : Int) = t_1.dir ∧ xs[j] = t_1.name ∧ (0 : Int) = t_1.ino ∧ (0 : Int) = t_1.node.k ∧ (0 : Int) = t_1.node.l ∧ (0 : Int) = t_1.node.s ∧ (0 : Int) = t_1.node.p ∧ t_1.ok ∧
                findL V.shown (Spt.root V.shown) xs = findL V.shown t_1 (xs.drop j_1) ∧ VK v V.rb V.rb h1 g' ∧ VAt g' v { V with reads := rd_1 } ∧ rd_1.length ≤ V.reads.length + 1 + 2 * j_1 ∧ Through rd_1 t_1 := by
            intro g' rd' hst q1 q2 q3 q4
            rw [hst] at hf
            exact ⟨m' - 1, by omega, j + 1, ⟨t.ino, xs[j], 0, Nd.zero⟩, rd', by omega, by omega, by omega, rfl, rfl, rfl, rfl, rfl, rfl, rfl, ⟨tok.ino, (by decide : 0 < 4294967296), Nd.zero_ok, n1⟩, hf, q1, q2, q3, q4⟩
          have l4 : (kset rd (kE t.ino xs[j]) E0).length ≤ V.reads.length + 1 + 2 * (j + 1) := by have := kset_len rd (kE t.ino xs[j]) E0; omega
          cases hc : child V.shown t.ino xs[j] with
          | none =>
            have hst : stepTo V.shown t xs[j] = ⟨t.ino, xs[j], 0, Nd.zero⟩ := by unfold stepTo; rw [hc]
            exact bsF rfl ⟨by unfold I64; omega, base h4 _ hst kg4 v4 l4 th4⟩
          | some ci =>
            refine bsT rfl ?_
            have hci := child_lt hc
            have hle4 : ({ V with reads := kset rd (kE t.ino xs[j]) E0 } : VS).le (m + 40) := ⟨hle.base, hle.shown, hle.writes, by have := hm.reads; show (kset rd (kE t.ino xs[j]) E0).length ≤ _; omega, hle.nr⟩
            refine (ok_WLoad v4 hsm ci hci hle4 (by omega)).mono ?_
            rintro _ h5 ⟨rfl, k5, v5⟩
            have kg5 : VK v V.rb V.rb h1 h5 := VK.trans v4.ne kg4 k5
            have rise4 := v4.rise.2.2.2
            have l5 : (kset (kset rd (kE t.ino xs[j]) E0) (kI ci) E0).length ≤ V.reads.length + 1 + 2 * (j + 1) := by
              have := kset_len rd (kE t.ino xs[j]) E0
              have := kset_len (kset rd (kE t.ino xs[j]) E0) (kI ci) E0
              omega
            have th5 : Through (kset (kset rd (kE t.ino xs[j]) E0) (kI ci) E0) ⟨t.ino, xs[j], 0, Nd.zero⟩ :=
              ⟨(has_set rise4 _ _ _).2 (.inr th4.1), fun h => (has_set rise4 _ _ _).2 (.inr (th4.2.1 h)), fun h => absurd rfl h, fun h => (has_set rise4 _ _ _).2 (.inr (th4.2.2.2 h))⟩
            refine ⟨_, _, _, _, _, rfl, ?_⟩
            cases hl : load V.shown ci with
            | none =>
              have hst : stepTo V.shown t xs[j] = ⟨t.ino, xs[j], 0, Nd.zero⟩ := by unfold stepTo; rw [hc]; dsimp only; rw [hl]
              exact bsF rfl ⟨by unfold I64; omega, base h5 _ hst kg5 v5 l5 th5⟩
            | some x =>
              refine bsT rfl (bs (fun d3 => ?_) fun d3 => ?_)
              · have d3 : ci ≠ 0 := by intro e; rw [show (some ci : Option Nat).getD 0 = ci from rfl, e] at d3; cases d3
                have hst : stepTo V.shown t xs[j] = ⟨t.ino, xs[j], ci, x⟩ := by unfold stepTo; rw [hc]; dsimp only; rw [hl]; dsimp only; rw [if_pos d3]
                rw [hst] at hf
                refine ⟨by unfold I64; omega, m' - 1, by omega, j + 1, ⟨t.ino, xs[j], ci, x⟩, _, by omega, by omega, by omega, rfl, rfl, rfl, rfl, rfl, rfl, rfl, ⟨tok.ino, hci, (load_ok hl).1, n1⟩, hf, kg5, v5, l5, th5.1, th5.2.1, fun _ => (has_set rise4 _ _ _).2 (.inl rfl), th5.2.2.2⟩
              · have d3 : ¬ ci ≠ 0 := by
                  have : (ci : Int) = 0 := by simpa using d3
                  omega
                have hst : stepTo V.shown t xs[j] = ⟨t.ino, xs[j], 0, Nd.zero⟩ := by unfold stepTo; rw [hc]; dsimp only; rw [hl]; dsimp only; rw [if_neg d3]
                exact ⟨by unfold I64; omega, base h5 _ hst kg5 v5 l5 th5⟩
      · have cf2 : j = l := by have := of_decide_eq_false cf2; omega
        have hd : xs.drop j = [] := List.drop_of_length_le (by omega)
        rw [hd] at hf
        exact fin (0, t) hf (fun _ => hth)

end Go.Proofs.YtkhfofnglkekoaaDoor
