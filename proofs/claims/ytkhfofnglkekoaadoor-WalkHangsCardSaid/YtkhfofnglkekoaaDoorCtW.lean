/- Contracts, part W: packages node and walk. Conditions: none. -/
import Derived.Test.YtkhfofnglkekoaaDoorCtA
import Derived.Test.YtkhfofnglkekoaaDoorCtV
import Derived.Test.YtkhfofnglkekoaaDoorCtN
namespace Go.Proofs.YtkhfofnglkekoaaDoor

theorem wrap64_id {n : Nat} (h : n < 4294967296) : IntKind.u64.wrap (n : Int) = n := by rw [wrap_u64]; omega
theorem wrap32_id {n : Nat} (h : n < 4294967296) : IntKind.u32.wrap (n : Int) = n := by rw [wrap_u32]; omega

theorem ok_NMay {x : Nd} (h : Hp) : FnH Tryd.prog N_node_May #[.agg x.vals.toArray] h fun r h' => r = .bool x.may ∧ h = h' := by
  refine F_node_May.calls x.k x.l x.s x.p h _ ?_
  unfold F_node_May Nd.may
  refine bs (fun c => ?_) fun c => ?_
  · have c : x.k = 1 := by have : (x.k : Int) = 1 := by simpa using c
                           omega
    rw [if_pos c]
    refine bs (fun d => bs (fun e => bs (fun f => ?_) fun f => ?_) fun e => ?_) fun d => ?_
    · have d := of_decide_eq_true d; have e := of_decide_eq_true e; have f := of_decide_eq_true f
      refine ⟨?_, rfl⟩
      rw [decide_eq_true (show 1 ≤ x.l by omega), decide_eq_true (show x.l ≤ 1000 by omega), decide_eq_true (show x.s ≤ 4096 by omega)]
      simp only [Bool.true_and]
      congr 1
      by_cases g : x.p = 0 <;> simp [g]
    · have f := of_decide_eq_false f
      exact ⟨by rw [decide_eq_false (show ¬ x.s ≤ 4096 by omega)]; simp, rfl⟩
    · have e := of_decide_eq_false e
      exact ⟨by rw [decide_eq_false (show ¬ x.l ≤ 1000 by omega)]; simp, rfl⟩
    · have d := of_decide_eq_false d
      exact ⟨by rw [decide_eq_false (show ¬ 1 ≤ x.l by omega)]; simp, rfl⟩
  · have c : ¬ x.k = 1 := by rintro e; simp [e] at c
    rw [if_neg c]
    refine bs (fun d => ?_) fun d => ?_
    · have d : x.k = 2 := by have : (x.k : Int) = 2 := by simpa using d
                             omega
      rw [if_pos d]
      refine bs (fun e => ?_) fun e => ?_
      · have e := of_decide_eq_true e
        refine ⟨?_, rfl⟩
        rw [decide_eq_true (show 2 ≤ x.l by omega), Bool.true_and]
        congr 1
        by_cases g : x.s = 0 <;> simp [g]
      · have e := of_decide_eq_false e
        exact ⟨by rw [decide_eq_false (show ¬ 2 ≤ x.l by omega)]; simp, rfl⟩
    · have d : ¬ x.k = 2 := by rintro e; simp [e] at d
      rw [if_neg d]
      exact ⟨rfl, rfl⟩

theorem ok_NPut {x : Nd} (hx : x.ok) (h : Hp) : FnH Tryd.prog N_node_Put #[.agg x.vals.toArray] h fun r h' => r = .string (bOf x.bytes) ∧ Ext h h' := by
  refine F_node_Put.calls x.k x.l x.s x.p h _ ?_
  unfold F_node_Put
  intro b hb
  let part : Nat → List UInt8 := fun k => UInt8.ofNat x.k :: (if k = 0 then [] else if k = 1 then be 4 x.l else if k = 2 then be 4 x.l ++ be 4 x.s else be 4 x.l ++ (be 4 x.s ++ be 4 x.p))
  have hk : ((x.k : Nat) : Int) = ((UInt8.ofNat x.k).toNat : Int) := by have := hx.k; simp; omega
  refine ⟨fun m a l c i g => ∃ k : Nat, i = k ∧ m + k = 3 ∧ k ≤ 3 ∧ Ext h g ∧ l = 1 + 4 * k ∧ BSl T_uint8 g a l c (part k), ⟨3, 0, rfl, rfl, by omega, Ext.new hb, rfl, ?_⟩, ?_⟩
  · rw [hk]
    exact BSl.fresh (s := [UInt8.ofNat x.k]) rfl
  · rintro m a l c i g ⟨k, rfl, hm, hk3, hg, rfl, hs⟩
    refine bs (fun ct => ?_) fun cf => ?_
    · have ct : k < 3 := by have := of_decide_eq_true ct; omega
      have hv : ∃ n : Nat, n < 4294967296 ∧ ([.int .u32 x.l, .int .u32 x.s, .int .u32 x.p] : List Value)[Int.toNat (k : Int)]? = some (.int .u32 n) ∧ part (k + 1) = part k ++ be 4 n := by
        have : k = 0 ∨ k = 1 ∨ k = 2 := by omega
        rcases this with rfl | rfl | rfl
        · exact ⟨x.l, hx.l, rfl, by simp [part]⟩
        · exact ⟨x.s, hx.s, rfl, by simp [part]⟩
        · exact ⟨x.p, hx.p, rfl, by simp [part]⟩
      obtain ⟨n, hn, hv, hp⟩ := hv
      refine ⟨by omega, by omega, n, hv, ?_⟩
      rw [wrap64_id hn]
      refine (ok_put hs 4 n (by omega) (by omega) (by omega)).mono ?_
      rintro _ h' ⟨a', ha', rfl, rfl⟩
      refine ⟨_, _, _, rfl, by unfold I64; omega, m - 1, by omega, k + 1, by omega, by omega, by omega, hg.trans (Ext.new ha'), by omega, ?_⟩
      rw [hp]
      exact BSl.fresh (by rw [List.length_append, be_len]; have := hs.len; omega)
    · have cf : k = 3 := by have := of_decide_eq_false cf; omega
      subst cf
      exact ⟨_, hs.bytes, rfl, hg⟩

theorem ok_NGet (s : ByteArray) (hz : s.size < 1000000000) (h : Hp) : FnH Tryd.prog N_node_Get #[.string s] h fun r h' => r = .tuple #[.agg ((getNd s.data.toList).getD Nd.zero).vals.toArray, .bool (getNd s.data.toList).isSome] ∧ Ext h h' := by
  refine F_node_Get.calls s h _ ?_
  unfold F_node_Get
  refine bs (fun c => ?_) fun c => ?_
  · have c : ¬ s.data.toList.length = 13 := by
      intro e
      rw [← size_list] at e
      simp [e] at c
    have : getNd s.data.toList = none := by unfold getNd; rw [if_neg]; rintro ⟨h, _⟩; exact c h
    rw [this]
    exact ⟨rfl, Ext.refl⟩
  · have c : s.data.toList.length = 13 := by
      have : (s.size : Int) = 13 := by simpa using c
      rw [← size_list]; omega
    have cs : s.size = 13 := c
    intro b hb
    have hok := ndOf_ok _ c
    refine ⟨fun m at_ i g => ∃ k : Nat, i = k ∧ m + k = 3 ∧ k ≤ 3 ∧ at_ = ((1 + 4 * k : Nat) : Int) ∧ Ext h g ∧
      g b = some (.cells #[.int .u32 (if 0 < k then (ndOf s.data.toList).l else 0 : Nat), .int .u32 (if 1 < k then (ndOf s.data.toList).s else 0 : Nat), .int .u32 (if 2 < k then (ndOf s.data.toList).p else 0 : Nat)] T_a3_uint32 (0, 0)),
      ⟨3, 0, rfl, rfl, by omega, rfl, Ext.new hb, Hp.set_same _ _ _⟩, ?_⟩
    rintro m at_ i g ⟨k, rfl, hm, hk3, rfl, hg, hgb⟩
    refine bs (fun ct => ?_) fun cf => ?_
    · have ct : k < 3 := by have := of_decide_eq_true ct; omega
      intro cap hcap p hp
      have hne : b ≠ p := by rintro rfl; rw [hgb] at hp; cases hp
      have ht := BSl.text (T := T_uint8) (h := g.set p (.cells ((s.data.toList.map fun b => Value.int .u8 b.toNat) ++ List.replicate (cap - s.size) (Value.int .u8 0)).toArray T_uint8 (cap, cap + 1))) hcap (Hp.set_same _ _ _)
      refine (ok_get ht (1 + 4 * k) 4 (by omega) (by omega) (by omega) (by omega)).mono ?_
      rintro _ h' ⟨rfl, hr⟩
      rcases hr with ⟨hle, rfl⟩ | ⟨hle, _⟩
      · refine ⟨_, _, _, rfl, by omega, by omega, ?_⟩
        rw [add_at]
        have hlt : unb ((s.data.toList.drop (1 + 4 * k)).take 4) < 4294967296 := by
          have := unb_lt ((s.data.toList.drop (1 + 4 * k)).take 4)
          have e : ((s.data.toList.drop (1 + 4 * k)).take 4).length = 4 := by simp; omega
          rw [e] at this; exact this
        rw [wrap32_id hlt]
        have hgb' : (g.set p (.cells ((s.data.toList.map fun b => Value.int .u8 b.toNat) ++ List.replicate (cap - s.size) (Value.int .u8 0)).toArray T_uint8 (cap, cap + 1))) b = _ := (Hp.set_ne _ _ hne).trans hgb
        have hbn : h b = none := hb
        refine hst_at hgb' (by simp; omega) ⟨by unfold I64; omega, m - 1, by omega, k + 1, by omega, by omega, by omega, by omega, (hg.trans (Ext.new hp)).turn hbn, ?_⟩
        rw [Hp.set_same]
        have : k = 0 ∨ k = 1 ∨ k = 2 := by omega
        rcases this with rfl | rfl | rfl
        · rfl
        · rfl
        · rfl
      · exact absurd (by omega) hle
    · have cf : k = 3 := by have := of_decide_eq_false cf; omega
      subst cf
      have e0 : (byteAt s 0) = ((ndOf s.data.toList).k : Int) := rfl
      refine ⟨by omega, by omega, by omega, by omega, _, at_cellI hgb rfl, by omega, by omega, _, at_cellI hgb rfl, by omega, by omega, _, at_cellI hgb rfl, ?_⟩
      rw [e0]
      refine (ok_NMay (x := ndOf s.data.toList) g).mono ?_
      rintro _ h' ⟨rfl, rfl⟩
      refine ⟨_, rfl, bs (fun d => ?_) fun d => ?_⟩
      · have d : (ndOf s.data.toList).may = false := by simpa using d
        have : getNd s.data.toList = none := by unfold getNd; rw [if_neg]; rintro ⟨_, h⟩; rw [d] at h; cases h
        rw [this]
        exact ⟨rfl, hg⟩
      · have d : (ndOf s.data.toList).may = true := by simpa using d
        have : getNd s.data.toList = some (ndOf s.data.toList) := by unfold getNd; rw [if_pos ⟨c, d⟩]
        rw [this]
        exact ⟨rfl, hg⟩

theorem ok_NNew (k p : Nat) (h : Hp) : FnH Tryd.prog N_node_New #[.int .u8 k, .int .u32 p] h fun r h' => r = .agg (if k = 1 then (⟨1, 1, 0, 0⟩ : Nd) else ⟨2, 2, 0, p⟩).vals.toArray ∧ h = h' := by
  refine F_node_New.calls k p h _ ?_
  unfold F_node_New
  refine bs (fun c => ?_) fun c => ?_
  · have c : k = 1 := by have : (k : Int) = 1 := by simpa using c
                         omega
    rw [if_pos c]; exact ⟨rfl, rfl⟩
  · have c : ¬ k = 1 := by rintro rfl; simp at c
    rw [if_neg c]; exact ⟨rfl, rfl⟩

theorem ok_NRoot (h : Hp) : FnH Tryd.prog N_node_Root #[] h fun r h' => r = .agg Nd.root.vals.toArray ∧ h = h' := by
  refine F_node_Root.calls h _ ?_
  unfold F_node_Root
  refine (ok_NNew 2 1 h).mono ?_
  rintro _ _ ⟨rfl, rfl⟩
  exact ⟨_, _, _, _, rfl, rfl, rfl⟩

/-! Walks. A view whose values are not too great. -/
def Small (l : KV) : Prop := ∀ x ∈ l, x.2.size < 1000000000
theorem Small.get {l : KV} (h : Small l) {k v : ByteArray} (hk : kget l k = some v) : v.size < 1000000000 := h _ (kget_some hk)
theorem Small.set {l : KV} (h : Small l) {k v : ByteArray} (hv : v.size < 1000000000) : Small (kset l k v) := by
  intro x hx
  rcases kset_mem hx with rfl | hx
  · exact hv
  · exact h x hx
theorem Small.cut {l : KV} (h : Small l) {k : ByteArray} : Small (kcut l k) := fun x hx => h x (List.mem_filter.1 hx).1
theorem E0_size : E0.size = 0 := rfl

theorem ok_WLoad {h : Hp} {v : Nat} {V : VS} (hv : VAt h v V) (hsm : Small V.shown) (n : Nat) (hn : n < 4294967296) {m : Nat} (hm : V.le m) (hs : m < 100000000) :
    FnH Tryd.prog N_walk_Load #[.pointer (some ⟨v, 0, none⟩), .int .u32 n] h fun r h' => r = .tuple #[.agg ((load V.shown n).getD Nd.zero).vals.toArray, .bool (load V.shown n).isSome] ∧ VK v V.rb V.rb h h' ∧ VAt h' v { V with reads := kset V.reads (kI n) E0 } := by
  refine F_walk_Load.calls _ n h _ ?_
  unfold F_walk_Load
  refine (ok_kI n hn h).mono ?_
  rintro _ h1 ⟨rfl, e1⟩
  refine ⟨_, rfl, ?_⟩
  refine (ok_VGet (hv.ext e1) (kI n) hm hs).mono ?_
  rintro _ h2 ⟨rfl, k2, v2⟩
  have vk : VK v V.rb V.rb h h2 := VK.trans (hv.ext e1).ne (VK.ext e1) k2
  refine ⟨_, _, rfl, ?_⟩
  unfold load
  cases hg : kget V.shown (kI n) with
  | none =>
    refine bsT rfl (bs (fun c => ?_) fun c => ?_)
    · have c : n = 1 := by have : (n : Int) = 1 := by simpa using c
                           omega
      refine (ok_NRoot h2).mono ?_
      rintro _ _ ⟨rfl, rfl⟩
      refine ⟨_, _, _, _, rfl, ?_, vk, v2⟩
      dsimp only
      rw [if_pos c]; rfl
    · have c : ¬ n = 1 := by rintro rfl; simp at c
      refine (ok_NGet _ (by decide) h2).mono ?_
      rintro _ h3 ⟨rfl, e3⟩
      refine ⟨_, _, _, _, _, rfl, ?_, VK.trans v2.ne vk (VK.ext e3), v2.ext e3⟩
      dsimp only
      rw [if_neg c]; rfl
  | some s =>
    refine bsF rfl ?_
    refine (ok_NGet _ (hsm.get hg) h2).mono ?_
    rintro _ h3 ⟨rfl, e3⟩
    exact ⟨_, _, _, _, _, rfl, rfl, VK.trans v2.ne vk (VK.ext e3), v2.ext e3⟩

theorem ok_WChild {h : Hp} {v : Nat} {V : VS} (hv : VAt h v V) (hsm : Small V.shown) (n : Nat) (hn : n < 4294967296) (s : ByteArray) (hz : s.size ≤ 32) {m : Nat} (hm : V.le m) (hs : m < 100000000) :
    FnH Tryd.prog N_walk_Child #[.pointer (some ⟨v, 0, none⟩), .int .u32 n, .string s] h fun r h' => r = .tuple #[.int .u32 ((child V.shown n s).getD 0 : Nat), .bool (child V.shown n s).isSome] ∧ VK v V.rb V.rb h h' ∧ VAt h' v { V with reads := kset V.reads (kE n s) E0 } := by
  refine F_walk_Child.calls _ n s h _ ?_
  unfold F_walk_Child
  refine (ok_kE n hn s hz h).mono ?_
  rintro _ h1 ⟨rfl, e1⟩
  refine ⟨_, rfl, ?_⟩
  refine (ok_VGet (hv.ext e1) (kE n s) hm hs).mono ?_
  rintro _ h2 ⟨rfl, k2, v2⟩
  have vk : VK v V.rb V.rb h h2 := VK.trans (hv.ext e1).ne (VK.ext e1) k2
  refine ⟨_, _, rfl, fun cap hc b hb => ?_⟩
  have hx : ∃ x : ByteArray, (kget V.shown (kE n s)).getD E0 = x ∧ x.size < 1000000000 := by
    refine ⟨_, rfl, ?_⟩
    cases hg : kget V.shown (kE n s) with
    | none => decide
    | some x => exact hsm.get hg
  obtain ⟨x, hxe, hxs⟩ := hx
  rw [hxe] at hc ⊢
  have ht := BSl.text (T := T_uint8) (h := h2.set b (.cells ((x.data.toList.map fun b => Value.int .u8 b.toNat) ++ List.replicate (cap - x.size) (Value.int .u8 0)).toArray T_uint8 (cap, cap + 1))) hc (Hp.set_same _ _ _)
  have e3 := Ext.new (h := h2) (o := .cells ((x.data.toList.map fun b => Value.int .u8 b.toNat) ++ List.replicate (cap - x.size) (Value.int .u8 0)).toArray T_uint8 (cap, cap + 1)) hb
  have fin : ∀ r, r = Value.tuple #[.int .u32 ((child V.shown n s).getD 0 : Nat), .bool (child V.shown n s).isSome] → r = Value.tuple #[.int .u32 ((child V.shown n s).getD 0 : Nat), .bool (child V.shown n s).isSome] ∧ VK v V.rb V.rb h (h2.set b (.cells ((x.data.toList.map fun b => Value.int .u8 b.toNat) ++ List.replicate (cap - x.size) (Value.int .u8 0)).toArray T_uint8 (cap, cap + 1))) ∧
      VAt (h2.set b (.cells ((x.data.toList.map fun b => Value.int .u8 b.toNat) ++ List.replicate (cap - x.size) (Value.int .u8 0)).toArray T_uint8 (cap, cap + 1))) v { V with reads := kset V.reads (kE n s) E0 } :=
    fun r hr => ⟨hr, VK.trans v2.ne vk (VK.ext e3), v2.ext e3⟩
  have hch : child V.shown n s = if x.size = 4 then some (unb x.data.toList) else none := by
    unfold child
    cases hg : kget V.shown (kE n s) with
    | none => rw [hg] at hxe; subst hxe; rfl
    | some y => rw [hg] at hxe; cases hxe; rfl
  refine (ok_get ht 0 4 (by omega) (by omega) (by omega) (by omega)).mono ?_
  rintro _ _ ⟨rfl, hr⟩
  rcases hr with ⟨hle, rfl⟩ | ⟨hle, rfl⟩
  · refine ⟨_, _, _, rfl, bsF rfl (bs (fun c => ?_) fun c => ?_)⟩
    · have c : ¬ x.size = 4 := by intro e; rw [e] at c; simp at c
      rw [if_neg c] at hch
      exact fin _ (by rw [hch]; rfl)
    · have c : x.size = 4 := by
        have : (((0 : Nat) : Int) + (4 : Nat)) = (x.size : Int) := by simpa using c
        omega
      rw [if_pos c] at hch
      have ht4 : (x.data.toList.drop 0).take 4 = x.data.toList := by rw [List.drop_zero, List.take_of_length_le (by rw [← size_list]; omega)]
      rw [ht4]
      have hlt : unb x.data.toList < 4294967296 := child_lt hch
      rw [wrap32_id hlt]
      exact fin _ (by rw [hch]; rfl)
  · have : ¬ x.size = 4 := by omega
    rw [if_neg this] at hch
    exact ⟨_, _, _, rfl, bsT rfl (fin _ (by rw [hch]; rfl))⟩

theorem ok_WSave {h : Hp} {v : Nat} {V : VS} (hv : VAt h v V) (n : Nat) (hn : n < 4294967296) {x : Nd} (hx : x.ok) {m : Nat} (hm : V.le m) (hs : m < 100000000) :
    FnH Tryd.prog N_walk_Save #[.pointer (some ⟨v, 0, none⟩), .int .u32 n, .agg x.vals.toArray] h fun r h' => r = .bool (V.room (kI n)) ∧ VK v V.rb V.rb h h' ∧ VAt h' v (if V.room (kI n) then V.set (kI n) (bOf x.bytes) else V) := by
  refine F_walk_Save.calls _ n x.k x.l x.s x.p h _ ?_
  unfold F_walk_Save
  refine ⟨fun _ => True, trivial, ?_⟩
  refine (ok_kI n hn h).mono ?_
  rintro _ h1 ⟨rfl, e1⟩
  refine ⟨_, rfl, trivial, ?_⟩
  refine (ok_NPut hx h1).mono ?_
  rintro _ h2 ⟨rfl, e2⟩
  refine ⟨_, rfl, trivial, ?_⟩
  have e := e1.trans e2
  refine (ok_VSet (hv.ext e) (kI n) (bOf x.bytes) hm hs (by rw [bOf_size, Nd.bytes_len]; omega)).mono ?_
  rintro _ h3 ⟨rfl, k3, v3⟩
  exact ⟨_, rfl, rfl, VK.trans (hv.ext e).ne (VK.ext e) k3, v3⟩

theorem ok_WDrop {h : Hp} {v : Nat} {V : VS} (hv : VAt h v V) (n : Nat) (hn : n < 4294967296) {m : Nat} (hm : V.le m) (hs : m < 100000000) :
    FnH Tryd.prog N_walk_Drop #[.pointer (some ⟨v, 0, none⟩), .int .u32 n] h fun r h' => r = .bool (V.room (kI n)) ∧ VK v V.rb V.rb h h' ∧ VAt h' v (if V.room (kI n) then V.cut (kI n) else V) := by
  refine F_walk_Drop.calls _ n h _ ?_
  unfold F_walk_Drop
  refine (ok_kI n hn h).mono ?_
  rintro _ h1 ⟨rfl, e⟩
  refine ⟨_, rfl, ?_⟩
  refine (ok_VCut (hv.ext e) (kI n) hm hs).mono ?_
  rintro _ h3 ⟨rfl, k3, v3⟩
  exact ⟨_, rfl, rfl, VK.trans (hv.ext e).ne (VK.ext e) k3, v3⟩

theorem ok_WHang {h : Hp} {v : Nat} {V : VS} (hv : VAt h v V) (d : Nat) (hd : d < 4294967296) (s : ByteArray) (hz : s.size ≤ 32) (n : Nat) (hn : n < 4294967296) {m : Nat} (hm : V.le m) (hs : m < 100000000) :
    FnH Tryd.prog N_walk_Hang #[.pointer (some ⟨v, 0, none⟩), .int .u32 d, .string s, .int .u32 n] h fun r h' => r = .bool (V.room (kE d s)) ∧ VK v V.rb V.rb h h' ∧ VAt h' v (if V.room (kE d s) then V.set (kE d s) (bOf (be 4 n)) else V) := by
  refine F_walk_Hang.calls _ d s n h _ ?_
  unfold F_walk_Hang
  refine (ok_kE d hd s hz h).mono ?_
  rintro _ h1 ⟨rfl, e1⟩
  refine ⟨_, rfl, ?_⟩
  rw [wrap64_id hn]
  have h0 : BSl T_uint8 h1 none 0 0 [] := Sl.nil
  refine (ok_put h0 4 n (by omega) (by omega) (by omega)).mono ?_
  rintro _ h2 ⟨a, ha, rfl, rfl⟩
  have e2 := Ext.new (h := h1) (o := .cells (bv ([] ++ be 4 n)).toArray T_uint8 (0, 0)) ha
  refine ⟨_, _, _, rfl, bOf (be 4 n), (BSl.fresh (T := T_uint8) (s := [] ++ be 4 n) (by simp [be_len])).bytes, ?_⟩
  have e := e1.trans e2
  refine (ok_VSet (hv.ext e) (kE d s) (bOf (be 4 n)) hm hs (by rw [bOf_size, be_len]; omega)).mono ?_
  rintro _ h3 ⟨rfl, k3, v3⟩
  exact ⟨_, rfl, rfl, VK.trans (hv.ext e).ne (VK.ext e) k3, v3⟩

theorem ok_WUnhang {h : Hp} {v : Nat} {V : VS} (hv : VAt h v V) (d : Nat) (hd : d < 4294967296) (s : ByteArray) (hz : s.size ≤ 32) {m : Nat} (hm : V.le m) (hs : m < 100000000) :
    FnH Tryd.prog N_walk_Unhang #[.pointer (some ⟨v, 0, none⟩), .int .u32 d, .string s] h fun r h' => r = .bool (V.room (kE d s)) ∧ VK v V.rb V.rb h h' ∧ VAt h' v (if V.room (kE d s) then V.cut (kE d s) else V) := by
  refine F_walk_Unhang.calls _ d s h _ ?_
  unfold F_walk_Unhang
  refine (ok_kE d hd s hz h).mono ?_
  rintro _ h1 ⟨rfl, e⟩
  refine ⟨_, rfl, ?_⟩
  refine (ok_VCut (hv.ext e) (kE d s) hm hs).mono ?_
  rintro _ h3 ⟨rfl, k3, v3⟩
  exact ⟨_, rfl, rfl, VK.trans (hv.ext e).ne (VK.ext e) k3, v3⟩

end Go.Proofs.YtkhfofnglkekoaaDoor
