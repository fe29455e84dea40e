/- Contracts, part R: the references of layers 3, 9, 10, 15, 17. Conditions: none. -/
import Derived.Test.YtkhfofnglkekoaaDoorCtX
import Derived.Test.YtkhfofnglkekoaaDoorLbX
namespace Go.Proofs.YtkhfofnglkekoaaDoor

/-- A slice of one's own, seen from all else that is there. -/
theorem Out.rebase {h hd : Hp} {e sz : Nat} {a : Option Addr} {l c : Nat} {vs : List Value} (ex : Ext h hd) (o : Out h hd e sz a l c vs) :
    ∃ h0, Ext h0 hd ∧ Out h0 hd e sz a l c vs ∧ (∀ g, Ext h0 g → Ext h g) ∧ (∀ b, h0 b = none → h b = none) ∧ (∀ b x, hd b = some x → h b ≠ none ∨ (∀ p, a = some p → c * sz ≠ 0 → b ≠ p.block) → h0 b = some x) := by
  obtain ⟨s, o⟩ := o
  by_cases hc : c * sz = 0
  · exact ⟨hd, Ext.refl, ⟨s, .inl hc⟩, fun g hg => ex.trans hg, fun b hb => ex.none hb, fun b x hx _ => hx⟩
  rcases o with o | ⟨b, f, cs, rfl, hb, hd', hsz⟩
  · exact ⟨hd, Ext.refl, ⟨s, .inl o⟩, fun g hg => ex.trans hg, fun b hb => ex.none hb, fun b x hx _ => hx⟩
  · refine ⟨fun i => if i = b then none else hd i, fun i x hi => ?_, ⟨s, .inr ⟨b, f, cs, rfl, by simp, hd', hsz⟩⟩, fun g hg i x hi => ?_, fun i hi => ?_, fun i x hi hne => ?_⟩
    · dsimp only at hi
      split at hi
      · cases hi
      · exact hi
    · have hne : i ≠ b := by rintro rfl; rw [hb] at hi; cases hi
      exact hg i x (by dsimp only; rw [if_neg hne]; exact ex _ _ hi)
    · dsimp only at hi
      split at hi
      · rename_i e; rw [e]; exact hb
      · exact ex.none hi
    · have hne2 : i ≠ b := by
        rcases hne with hne | hne
        · rintro rfl; exact hne hb
        · exact hne _ rfl hc
      dsimp only
      rw [if_neg hne2]; exact hi

theorem Out.weaken {h h0 g : Hp} {e sz : Nat} {a : Option Addr} {l c : Nat} {vs : List Value} (hn : ∀ b, h0 b = none → h b = none) (o : Out h0 g e sz a l c vs) : Out h g e sz a l c vs :=
  ⟨o.1, o.2.imp id fun ⟨b, f, cs, e1, e2, e3, e4⟩ => ⟨b, f, cs, e1, hn b e2, e3, e4⟩⟩

theorem Out.empty {h0 h : Hp} {e sz b : Nat} : Out h0 h e sz (some ⟨b, 0, none⟩) 0 0 [] := ⟨⟨by simp, Nat.le_refl _, .inl (by simp)⟩, .inl (by simp)⟩

/-- Bytes of one's own. -/
def BOut (h0 h : Hp) (a : Option Addr) (l c : Nat) (xs : List UInt8) : Prop := xs.length = l ∧ Out h0 h T_uint8 1 a l c (bv xs)
theorem BOut.ext {h0 h h' : Hp} {a : Option Addr} {l c : Nat} {xs : List UInt8} (e : Ext h h') (p : BOut h0 h a l c xs) : BOut h0 h' a l c xs := ⟨p.1, p.2.ext e⟩
theorem BOut.bsl {h0 h : Hp} {a : Option Addr} {l c : Nat} {xs : List UInt8} (p : BOut h0 h a l c xs) : BSl T_uint8 h a l c xs := p.2.1
theorem BSl.src {h : Hp} {a : Option Addr} {l c : Nat} {xs : List UInt8} (p : BSl T_uint8 h a l c xs) : SrcIs h 1 (.slice a l c) l (bv xs) := Sl.src p

theorem bapp {h0 h : Hp} {a : Option Addr} {l c : Nat} {xs ys : List UInt8} {x : Value} {n : Nat} {K : Option Addr → Nat → Nat → Hp → Prop} (ex : Ext h0 h) (ho : BOut h0 h a l c xs) (hx : SrcIs h 1 x n (bv ys)) (hb : l + n < 5000000000)
    (hK : ∀ a' c' h', Ext h0 h' → BOut h0 h' a' (l + n) c' (xs ++ ys) → Chg h0 a h h' → K a' (l + n) c' h') : HApp (tyOf T_uint8) T_uint8 h a l c x K := by
  have hn : ys.length = n := by have := src_len hx; rw [bv_len] at this; omega
  refine happ (t := tyOf T_uint8) ex ho.2 hx (bv_leaf _) (by decide) rfl ?_ fun a' c' h' e o g => hK a' c' h' e ⟨by rw [List.length_append, ho.1, hn], by rw [bv_app]; exact o⟩ g
  have : (tyOf T_uint8).bytes = 1 := rfl
  rw [this]; omega

theorem ok_wide3 (n : Nat) (h1 : 1 ≤ n) (h2 : n ≤ 8) (h : Hp) : FnH Tryd.prog N_flintref03_wide #[.int .i64 n] h fun v h' => v = .int .i64 n ∧ h = h' := by
  refine F_flintref03_wide.calls n h _ ?_
  unfold F_flintref03_wide
  exact bsF (decide_eq_false (by omega)) (bsF (decide_eq_false (by omega)) ⟨rfl, rfl⟩)

def dig : Nat → Nat → List UInt8
  | 0, _ => []
  | n + 1, x => dig n x ++ [UInt8.ofNat (x / 2 ^ (8 * n))]
theorem dig_len : ∀ n x, (dig n x).length = n
  | 0, _ => rfl
  | n + 1, x => by simp [dig, dig_len n x]
theorem be_dig : ∀ n x, be n x = (dig n x).reverse
  | 0, _ => rfl
  | n + 1, x => by simp [be, dig, be_dig n x]

theorem ok_put3 {h : Hp} {b : Option Addr} {l c : Nat} {xs : List UInt8} (hs : BSl T_uint8 h b l c xs) (n x : Nat) (h1 : 1 ≤ n) (h2 : n ≤ 8) (hx : x < 18446744073709551616) (hl : l < 4000000000) :
    FnH Tryd.prog N_flintref03_Put #[.slice b l c, .int .i64 n, .int .u64 x] h fun r h' => ∃ a c', r = .slice a (l + n) c' ∧ Ext h h' ∧ BOut h h' a (l + n) c' (xs ++ be n x) := by
  refine F_flintref03_Put.calls b l c n x h _ ?_
  unfold F_flintref03_Put
  intro b4 hb4
  have e4 := Ext.new (h := h) (o := .cells #[] T_uint8) hb4
  refine bapp (xs := []) (ys := xs) e4 ⟨rfl, Out.empty⟩ (BSl.src (hs.ext e4)) (by omega) fun a7 c7 h6 e6 o7 _ => ?_
  rw [Nat.zero_add] at o7 ⊢
  rw [List.nil_append] at o7
  intro b8 hb8
  have e8 := Ext.new (h := h6) (o := .cells #[] T_uint8) hb8
  refine ⟨fun m x10 dg dl dc i g => ∃ k : Nat, i = k ∧ m + k = n ∧ k ≤ n ∧ x10 = ((x / 2 ^ (8 * k) : Nat) : Int) ∧ dl = k ∧ Ext h6 g ∧ BOut h6 g dg k dc (dig k x), ⟨n, 0, rfl, rfl, by omega, by simp, rfl, e8, rfl, Out.empty⟩, ?_⟩
  rintro m x10 dg dl dc i g ⟨k, rfl, hm, hkn, rfl, rfl, hg, od⟩
  refine (ok_wide3 n h1 h2 g).mono ?_
  rintro _ _ ⟨rfl, rfl⟩
  refine ⟨_, rfl, bs (fun ct => ?_) fun cf => ?_⟩
  · have ct : dl < n := by have := of_decide_eq_true ct; omega
    refine ⟨by decide, fun b20 hb20 => ?_⟩
    have e20 : ∀ o, Ext g (g.set b20 o) := fun o => Ext.new hb20
    have hby : IntKind.u8.wrap (Int.tmod ((x / 2 ^ (8 * dl) : Nat) : Int) 256) = ((UInt8.ofNat (x / 2 ^ (8 * dl))).toNat : Int) := by
      rw [wrap_u8, show (256 : Int) = ((256 : Nat) : Int) from rfl, ← Int.ofNat_tmod]
      simp
    rw [hby]
    refine bapp (ys := [UInt8.ofNat (x / 2 ^ (8 * dl))]) (hg.trans (e20 _)) (od.ext (e20 _)) (src_new (Hp.set_same _ _ _) rfl) (by omega) fun a' c' h' e' o' _ => ⟨by decide, by unfold I64; omega, m - 1, by omega, dl + 1, by omega, by omega, by omega, ?_, rfl, e', o'⟩
    rw [show (256 : Int) = ((256 : Nat) : Int) from rfl, ← Int.ofNat_tdiv, wrap_u64]
    have e1 : x / 2 ^ (8 * dl) / 256 = x / 2 ^ (8 * (dl + 1)) := by
      rw [Nat.div_div_eq_div_mul, Nat.mul_add, Nat.pow_add]
    have e2 : x / 2 ^ (8 * (dl + 1)) ≤ x := Nat.div_le_self _ _
    rw [e1]
    generalize x / 2 ^ (8 * (dl + 1)) = y at e2 ⊢
    omega
  · have cf : dl = n := by have := of_decide_eq_false cf; omega
    subst cf
    refine ⟨by unfold I64; omega, ?_⟩
    -- the second loop
    have o7g : BOut h g a7 l c7 xs := o7.ext hg
    obtain ⟨h0, q1, q2, q3, q4, q5⟩ := Out.rebase (e6.trans hg) o7g.2
    have dsl : ∀ {g' : Hp}, Ext h0 g' → BSl T_uint8 g' dg dl dc (dig dl x) := by
      intro g' hg'
      obtain ⟨s1, s2, s3⟩ := od.2.1
      refine ⟨s1, s2, s3.imp id ?_⟩
      rintro ⟨b, f, cs, fr, rfl, f2, f3⟩
      refine ⟨b, f, cs, fr, rfl, hg' _ _ (q5 b _ f2 (.inr fun p hp hc7 => ?_)), f3⟩
      rintro rfl
      -- the digits' array isn't the other one's
      rcases od.2.2 with hz | ⟨b2, f', cs', g1, g2, g3, g4⟩
      · have : dl * 1 ≤ dc * 1 := Nat.mul_le_mul_right 1 s2
        omega
      · cases g1
        obtain ⟨t1, t2, t3⟩ := o7.2.1
        rcases o7.2.2 with hz | ⟨b3, f3', cs3, k1, k2, k3, k4⟩
        · exact hc7 hz
        · rw [k1] at hp; cases hp
          rw [k3] at g2; cases g2
    refine ⟨fun m' a' l' c' i' g' => ∃ j : Nat, i' = (dl : Int) - 1 - j ∧ m' + j = dl ∧ j ≤ dl ∧ l' = l + j ∧ Ext h0 g' ∧ BOut h0 g' a' (l + j) c' (xs ++ (be dl x).take j), ⟨dl, 0, by omega, by omega, by omega, rfl, q1, by simpa using o7.1, by simpa using q2⟩, ?_⟩
    rintro m' a' l' c' i' g' ⟨j, rfl, hm', hj, rfl, hg', ob⟩
    refine bs (fun ct => ?_) fun cf => ?_
    · have ct : j < dl := by have := of_decide_eq_true ct; omega
      have hi : Int.toNat ((dl : Int) - 1 - j) = dl - 1 - j := by omega
      have hlt : dl - 1 - j < (dig dl x).length := by rw [dig_len]; omega
      obtain ⟨p, rfl, hp⟩ := (dsl hg').get hlt
      refine ⟨by omega, by omega, pS ⟨_, by rw [hi]; exact hp, fun b32 hb32 => ?_⟩⟩
      have e32 : ∀ o, Ext g' (g'.set b32 o) := fun o => Ext.new hb32
      refine bapp (ys := [(dig dl x)[dl - 1 - j]]) (hg'.trans (e32 _)) (ob.ext (e32 _)) (src_new (Hp.set_same _ _ _) rfl) (by omega) fun a'' c'' h'' e'' o'' _ => ⟨by unfold I64; omega, m' - 1, by omega, j + 1, by omega, by omega, by omega, by omega, e'', ?_⟩
      have hbe : j < (be dl x).length := by rw [be_len]; omega
      have hval : (dig dl x)[dl - 1 - j] = (be dl x)[j] := by
        simp only [be_dig, List.getElem_reverse, dig_len]
      have : xs ++ (be dl x).take (j + 1) = (xs ++ (be dl x).take j) ++ [(dig dl x)[dl - 1 - j]] := by
        rw [List.take_add_one, List.getElem?_eq_getElem hbe, hval, List.append_assoc]; rfl
      rw [this]
      exact o''
    · have cf : j = dl := by have := of_decide_eq_false cf; omega
      subst cf
      rw [List.take_of_length_le (by rw [be_len]; omega)] at ob
      exact ⟨_, _, rfl, q3 _ hg', ob.1, ob.2.weaken q4⟩

theorem ok_of3 (c : UInt8) (n : Nat) (hn : n < 4294967296) (h : Hp) : FnH Tryd.prog N_flintref09_of #[.int .u8 c.toNat, .int .u32 n] h fun v h' => v = .string (bOf (keyOf c n)) ∧ Ext h h' := by
  refine F_flintref09_of.calls _ _ h _ ?_
  unfold F_flintref09_of
  intro b hb
  have hb1 : BSl T_uint8 (h.set b (.cells #[.int .u8 c.toNat] T_uint8 (0, 0))) (some ⟨b, 0, none⟩) 1 1 [c] := BSl.fresh (s := [c]) rfl
  rw [wrap64_id hn]
  refine (ok_put3 hb1 4 n (by omega) (by omega) (by omega) (by omega)).mono ?_
  rintro _ h' ⟨a, c', rfl, e, bo⟩
  exact ⟨_, _, _, rfl, _, bo.bsl.bytes, rfl, (Ext.new hb).trans e⟩

/-- A slice of pairs. -/
def PSl (h : Hp) (a : Option Addr) (l c : Nat) (xs : KV) : Prop := xs.length = l ∧ Sl h T_api_Pair 3 a l c (pv xs)
theorem PSl.ext {h h' : Hp} {a : Option Addr} {l c : Nat} {xs : KV} (e : Ext h h') (p : PSl h a l c xs) : PSl h' a l c xs := ⟨p.1, p.2.ext e⟩
theorem PSl.ke {ts : List Nat} {h h' : Hp} {a : Option Addr} {l c : Nat} {xs : KV} (e : Ke ts h h') (m : memN T_api_Pair ts = false) (p : PSl h a l c xs) : PSl h' a l c xs := ⟨p.1, p.2.ke e m⟩
theorem PSl.nil {h : Hp} : PSl h none 0 0 [] := ⟨rfl, Sl.nil⟩
theorem POut.psl {h0 h : Hp} {a : Option Addr} {l c : Nat} {xs : KV} (p : POut h0 h a l c xs) : PSl h a l c xs := ⟨p.1, p.2.1⟩
theorem PSl.at {h : Hp} {a : Option Addr} {l c : Nat} {xs : KV} (s : PSl h a l c xs) {i : Nat} (hi : i < xs.length) : ∃ p, a = some p ∧ At h (p.add (i * 3)) [.string xs[i].1, .string xs[i].2, .bool false] := by
  have h2 : Sl h T_api_Pair 3 a l c (xs.flatMap fun (p : ByteArray × ByteArray) => [Value.string p.1, Value.string p.2, Value.bool false]) := s.2
  exact h2.atF (xs := xs) (f := fun p => [Value.string p.1, Value.string p.2, Value.bool false]) (fun _ => rfl) (by decide) (by have := s.1; omega) hi

/-! What a key was made of. -/
theorem ok_get3 {h : Hp} {b : Option Addr} {l c : Nat} {xs : List UInt8} (hs : BSl T_uint8 h b l c xs) (i n : Nat) (h1 : 1 ≤ n) (h2 : n ≤ 4) (hi : i + n ≤ l) (hm : l ≤ 140737488355328) :
    FnH Tryd.prog N_flintref03_Get #[.slice b l c, .int .i64 i, .int .i64 n] h fun v h' => h = h' ∧ v = .tuple #[.int .u64 (unb ((xs.drop i).take n)), .int .i64 ((i : Int) + n), .int .i64 0] := by
  refine F_flintref03_Get.calls b l c i n h _ ?_
  unfold F_flintref03_Get
  have hl := hs.len
  refine bsF (decide_eq_false (by omega)) (bsF (decide_eq_false (by omega)) ?_)
  refine ⟨fun m x k g => ∃ j : Nat, k = j ∧ m + j = n ∧ x = (unb ((xs.drop i).take j) : Nat) ∧ h = g, ⟨n, 0, rfl, by omega, by simp [unb], rfl⟩, ?_⟩
  rintro m x k g ⟨j, rfl, hj, rfl, rfl⟩
  refine (ok_wide3 n h1 (by omega) h).mono ?_
  rintro _ _ ⟨rfl, rfl⟩
  refine ⟨_, rfl, bs (fun ct => ?_) fun cf => ?_⟩
  · have ct : j < n := by have := of_decide_eq_true ct; omega
    have hlt : i + j < xs.length := by omega
    refine ⟨by unfold I64; omega, bsF (decide_eq_false (by omega)) ⟨by unfold I64; omega, by omega, by omega, ?_⟩⟩
    obtain ⟨p, rfl, hp⟩ := hs.get (i := i + j) hlt
    have e : Int.toNat ((i : Int) + j) = i + j := by omega
    rw [e]
    refine pS ⟨_, hp, by unfold I64; omega, m - 1, by omega, j + 1, by omega, by omega, ?_, rfl⟩
    rw [unb_take xs i j hlt, wrap_u64, wrap_u64, wrap_u64]
    have := unb_lt ((xs.drop i).take j)
    have h3 : ((xs.drop i).take j).length = j := by simp; omega
    rw [h3] at this
    have h4 : 256 ^ j ≤ 256 ^ 3 := Nat.pow_le_pow_right (by decide) (by omega)
    have := (xs[i + j]).toNat_lt
    generalize unb ((xs.drop i).take j) = u at *
    have h5 : (256 : Nat) ^ 3 = 16777216 := by decide
    omega
  · have cf : j = n := by have := of_decide_eq_false cf; omega
    subst cf
    refine (ok_wide3 j h1 (by omega) h).mono ?_
    rintro _ _ ⟨rfl, rfl⟩
    exact ⟨_, rfl, by unfold I64; omega, rfl, rfl⟩

/-- What a key was made of. -/
def keyParts (s : List UInt8) : Nat × Nat × List UInt8 × Nat :=
  if s.length < 5 then (0, 0, [], 0)
  else if s.head? = some 73 then (if s.length = 5 then (73, unb ((s.drop 1).take 4), [], 0) else (0, 0, [], 0))
  else if s.head? = some 69 then (if 5 < s.length ∧ s.length ≤ 37 then (69, unb ((s.drop 1).take 4), s.drop 5, 0) else (0, 0, [], 0))
  else if s.head? = some 68 then (if s.length = 7 then (68, unb ((s.drop 1).take 4), [], unb (s.drop 5)) else (0, 0, [], 0))
  else (0, 0, [], 0)

theorem ok_rSplit (s : ByteArray) (hz : s.size < 1000000000) (h : Hp) : FnH Tryd.prog N_flintref09_Split #[.string s] h fun r h' =>
    r = .tuple #[.int .u8 (keyParts s.data.toList).1, .int .u32 (keyParts s.data.toList).2.1, .string (bOf (keyParts s.data.toList).2.2.1), .int .i64 (keyParts s.data.toList).2.2.2] ∧ Ext h h' := by
  refine F_flintref09_Split.calls s h _ ?_
  unfold F_flintref09_Split keyParts
  refine bs (fun c => ?_) fun c => ?_
  · have c : s.data.toList.length < 5 := by have := of_decide_eq_true c; rw [← size_list]; omega
    rw [if_pos c]; exact ⟨rfl, Ext.refl⟩
  · have c : ¬ s.data.toList.length < 5 := by have := of_decide_eq_false c; rw [← size_list]; omega
    have cs : 5 ≤ s.size := by rw [size_list]; omega
    rw [if_neg c]
    intro cap hcap b hb
    have ht := BSl.text (T := T_uint8) (h := h.set b (.cells ((s.data.toList.map fun b => Value.int .u8 b.toNat) ++ List.replicate (cap - s.size) (Value.int .u8 0)).toArray T_uint8 (cap, cap + 1))) hcap (Hp.set_same _ _ _)
    have eb := Ext.new (h := h) (o := .cells ((s.data.toList.map fun b => Value.int .u8 b.toNat) ++ List.replicate (cap - s.size) (Value.int .u8 0)).toArray T_uint8 (cap, cap + 1)) hb
    refine (ok_get3 ht 1 4 (by omega) (by omega) (by omega) (by omega)).mono ?_
    rintro _ _ ⟨rfl, rfl⟩
    refine ⟨_, _, _, rfl, by omega, by omega, by omega, by omega, by omega, ?_⟩
    obtain ⟨b0, r, hcons⟩ : ∃ b0 r, s.data.toList = b0 :: r := by
      cases hx : s.data.toList with
      | nil => rw [hx] at c; simp at c
      | cons a b => exact ⟨a, b, rfl⟩
    have hb0 : byteAt s 0 = (b0.toNat : Int) := by unfold byteAt; rw [hcons]; rfl
    have hhead : s.data.toList.head? = some b0 := by rw [hcons]; rfl
    have hex : (ByteArray.extract s (Int.toNat 5) (Int.toNat (s.size : Int))).data.toList = s.data.toList.drop 5 := by
      rw [ext_list, Int.toNat_natCast, size_list, List.take_length]; rfl
    have hexs : (ByteArray.extract s (Int.toNat 5) (Int.toNat (s.size : Int))).size = s.data.toList.length - 5 := by rw [size_list, hex, List.length_drop]
    have hexb : ByteArray.extract s (Int.toNat 5) (Int.toNat (s.size : Int)) = bOf (s.data.toList.drop 5) := by rw [← hex, bOf_self]
    have hlt : unb ((s.data.toList.drop 1).take 4) < 4294967296 := by
      have := unb_lt ((s.data.toList.drop 1).take 4)
      have e : ((s.data.toList.drop 1).take 4).length = 4 := by simp; omega
      rw [e] at this; exact this
    rw [hb0, wrap32_id hlt, hhead]
    have isB : ∀ (x : UInt8), (((b0.toNat : Nat) : Int) == (x.toNat : Int)) = decide (b0 = x) := by
      intro x
      by_cases e : b0 = x
      · simp [e]
      · have : b0.toNat ≠ x.toNat := fun h => e (UInt8.toNat_inj.1 h)
        rw [decide_eq_false e, beq_eq_false_iff_ne]; omega
    have i73 := isB 73
    have i69 := isB 69
    have i68 := isB 68
    have n73 : (((73 : UInt8).toNat : Nat) : Int) = 73 := rfl
    have n69 : (((69 : UInt8).toNat : Nat) : Int) = 69 := rfl
    have n68 : (((68 : UInt8).toNat : Nat) : Int) = 68 := rfl
    rw [n73] at i73; rw [n69] at i69; rw [n68] at i68
    rw [i73, i69, i68]
    have zero : ∀ P : Prop, (Value.tuple #[.int .u8 0, .int .u32 0, .string E0, .int .i64 0]) = .tuple #[.int .u8 ((0 : Nat) : Int), .int .u32 ((0 : Nat) : Int), .string (bOf []), .int .i64 ((0 : Nat) : Int)] := fun _ => rfl
    refine bs (fun d => ?_) fun d => ?_
    · have d := of_decide_eq_true d
      subst d
      rw [if_pos rfl]
      refine bs (fun f => ?_) fun f => ?_
      · have f : s.data.toList.length = 5 := by
          rw [hexs] at f
          have : ((s.data.toList.length - 5 : Nat) : Int) = 0 := by simpa using f
          omega
        rw [if_pos f]; exact ⟨rfl, eb⟩
      · have f : ¬ s.data.toList.length = 5 := by rw [hexs] at f; intro e; rw [e] at f; cases f
        rw [if_neg f]; exact ⟨rfl, eb⟩
    · have d := of_decide_eq_false d
      rw [if_neg (fun h => d (Option.some.inj h))]
      refine bs (fun d2 => ?_) fun d2 => ?_
      · have d2 := of_decide_eq_true d2
        subst d2
        rw [if_pos rfl, hexs]
        refine bs (fun f => bs (fun g => ?_) fun g => ?_) fun f => ?_
        · have f := of_decide_eq_true f
          have g := of_decide_eq_true g
          rw [if_pos ⟨by omega, by omega⟩, hexb]; exact ⟨rfl, eb⟩
        · have g := of_decide_eq_false g
          rw [if_neg (by rintro ⟨h1, h2⟩; omega)]; exact ⟨rfl, eb⟩
        · have f := of_decide_eq_false f
          rw [if_neg (by rintro ⟨h1, h2⟩; omega)]; exact ⟨rfl, eb⟩
      · have d2 := of_decide_eq_false d2
        rw [if_neg (fun h => d2 (Option.some.inj h))]
        refine bs (fun d3 => ?_) fun d3 => ?_
        · have d3 := of_decide_eq_true d3
          subst d3
          rw [if_pos rfl, hexs]
          refine bs (fun f => ?_) fun f => ?_
          · have f : s.data.toList.length = 7 := by
              have : ((s.data.toList.length - 5 : Nat) : Int) = 2 := by simpa using f
              omega
            rw [if_pos f]
            have h7 : (s.data.toList.drop 5).length = 2 := by rw [List.length_drop]; omega
            obtain ⟨x, y, hxy⟩ : ∃ x y, s.data.toList.drop 5 = [x, y] := by
              match hh : s.data.toList.drop 5, h7 with
              | [x, y], _ => exact ⟨x, y, rfl⟩
            have b0' : byteAt (ByteArray.extract s (Int.toNat 5) (Int.toNat (s.size : Int))) 0 = (x.toNat : Int) := by unfold byteAt; rw [hex, hxy]; rfl
            have b1' : byteAt (ByteArray.extract s (Int.toNat 5) (Int.toNat (s.size : Int))) 1 = (y.toNat : Int) := by unfold byteAt; rw [hex, hxy]; rfl
            have hx := x.toNat_lt
            have hy := y.toNat_lt
            have w : ∀ n : Nat, n < 256 → IntKind.i64.wrap (n : Int) = n := by
              intro n hn
              exact wrap_i64 (by unfold I64; omega)
            rw [b0', b1', w _ hx, w _ hy, hxy]
            refine ⟨by omega, by omega, by unfold I64; omega, by omega, by omega, by unfold I64; omega, ?_, eb⟩
            have : unb [x, y] = 256 * x.toNat + y.toNat := by simp [unb]; omega
            rw [this]
            simp
            rfl
          · have f : ¬ s.data.toList.length = 7 := by intro e; rw [e] at f; cases f
            rw [if_neg f]; exact ⟨rfl, eb⟩
        · have d3 := of_decide_eq_false d3
          rw [if_neg (fun h => d3 (Option.some.inj h))]
          exact ⟨rfl, eb⟩

theorem ok_Vall {h : Hp} {p : Option Addr} {l : KV} (hp : MAt h p l) (hl : l.length < 100000000) :
    FnH Tryd.prog N_view_all #[.pointer p] h fun r h' => ∃ a n c, r = .slice a n c ∧ Ext h h' ∧ POut h h' a n c l := by
  refine F_view_all.calls p h _ ?_
  unfold F_view_all
  refine (ok_MLen hp).mono ?_
  rintro _ _ ⟨rfl, rfl⟩
  refine ⟨_, rfl, ?_⟩
  refine ⟨fun m a n c i g => ∃ j : Nat, i = j ∧ m + j = l.length ∧ n = j ∧ Ext h g ∧ POut h g a j c (l.take j), ⟨l.length, 0, rfl, by omega, rfl, Ext.refl, POut.nil⟩, ?_⟩
  rintro m a n c i g ⟨j, rfl, hm, rfl, hg, po⟩
  refine bs (fun ct => ?_) fun cf => ?_
  · have ct : n < l.length := by have := of_decide_eq_true ct; omega
    refine (ok_MAt (hp.ext hg) n ct hl).mono ?_
    rintro _ _ ⟨rfl, rfl⟩
    refine ⟨_, _, _, _, rfl, fun b hb => ?_⟩
    have eb : ∀ o, Ext g (g.set b o) := fun o => Ext.new hb
    refine papp (ys := [l[n]]) (hg.trans (eb _)) (po.ext (eb _)) (src_new (Hp.set_same _ _ _) rfl) (by omega) fun a' c' h' e' o' _ => ⟨by unfold I64; omega, m - 1, by omega, n + 1, by omega, by omega, rfl, e', ?_⟩
    rw [List.take_add_one, List.getElem?_eq_getElem ct]
    exact o'
  · have cf : n = l.length := by have := of_decide_eq_false cf; omega
    subst cf
    rw [List.take_of_length_le (Nat.le_refl _)] at po
    exact ⟨_, _, _, rfl, hg, po⟩

/-- A view that came after 'h0': what was there stays. -/
theorem VK.ext0 {v : Nat} {rb rb' : Option Nat} {h0 h h' : Hp} (e : Ext h0 h) (k : VK v rb rb' h h') (hv : h0 v = none) (hr : ∀ b, rb = some b → h0 b = none) : Ext h0 h' ∧ ∀ b, rb' = some b → h0 b = none := by
  refine ⟨fun b o hb => k.keep b o (e _ _ hb) ?_ ?_, fun b hb => ?_⟩
  · rintro rfl; rw [hv] at hb; cases hb
  · intro hx; rw [hr b hx] at hb; cases hb
  · rcases k.fresh b hb with hx | hx
    · exact hr b hx
    · exact e.none hx

end Go.Proofs.YtkhfofnglkekoaaDoor
