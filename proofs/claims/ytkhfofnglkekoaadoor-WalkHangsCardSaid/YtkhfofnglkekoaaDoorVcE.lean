/- Own verification-condition framework, part E: quiet operations, the second half. Conditions: none. -/
import Derived.Test.YtkhfofnglkekoaaDoorVcD
namespace Go.Proofs.YtkhfofnglkekoaaDoor

section
variable {cx : Cx} {adr : Nat → Nat} {ρ : Operand → Value} {σ : Env} {h : Hp} {K : SV → Loc → Prop} {loc : Loc} {rd : (Hp → Prop) → Prop}
  {dst : Option Tmp} {ty : TypeId} {pos : String} {after : Array Edge} {guard : Option (Nat × Bool)}

theorem bin_ok (cok : CxOk cx) {op : BinOp} {t : TypeId} {x y : Operand} {a b : Value} {K' : Value → Prop}
    (H : binV (fun t xs => cx.eqt t && hasShs (cx.T t).sh xs) (cx.T t).kind op t a b K') :
    ∃ v, K' v ∧ wpH cx.P (do eqGuard op t x y a b; binOp op t a b) (fun u h' => u = v ∧ h' = h) h := by
  cases a <;> cases b <;> try exact False.elim H
  case int.int k m k' n =>
    by_cases hs : op = .shl ∨ op = .shr
    · have : ∃ v, K' v ∧ wpH cx.P (Op.shift op k m k' n) (fun u h' => u = v ∧ h' = h) h := by
        rcases hs with rfl | rfl
        · exact shV_ok (.inl rfl) H
        · exact shV_ok (.inr rfl) H
      obtain ⟨v, hk, hv⟩ := this
      refine ⟨v, hk, wpH_b (guard_plain (by simp) (by simp) ?_)⟩
      rcases hs with rfl | rfl <;> exact hv
    · have h2 : (match decide (k = k') with | true => intBin op k m n K' | false => False) := by
        cases op <;> first | exact H | exact absurd (.inl rfl) hs | exact absurd (.inr rfl) hs
      by_cases hkk : k = k'
      · subst hkk
        simp only [decide_true] at h2
        obtain ⟨v, hk, hv⟩ := intBin_ok (P := cx.P) (h := h) h2
        refine ⟨v, hk, wpH_b (guard_plain (by simp) (by simp) ?_)⟩
        cases op <;> first | exact absurd (.inl rfl) hs | exact absurd (.inr rfl) hs | (simp only [binOp, ne_eq, not_true_eq_false, if_false]; exact hv)
      · simp [hkk] at h2
  case string.string s u =>
    obtain ⟨v, hk, hv⟩ := strBin_ok (P := cx.P) (h := h) H
    refine ⟨v, hk, wpH_b (guard_plain (by simp) (by simp) ?_)⟩
    cases op <;> first | exact hv | exact False.elim H
  case bool.bool p q =>
    simp only [binV] at H
    cases hkd : (cx.T t).kind <;> rw [hkd] at H <;> try exact False.elim H
    have hb := cok.tok.bool hkd
    cases op <;> try exact False.elim H
    · refine ⟨_, H, wpH_b (guard_plain (by simp) (by simp) ?_)⟩
      simp only [binOp]
      refine wpH_b ?_
      unfold Op.equal Op.maxDepth Op.equalIn
      exact wpH_b (wpH_under hb ⟨rfl, rfl⟩)
    · refine ⟨_, H, wpH_b (guard_plain (by simp) (by simp) ?_)⟩
      simp only [binOp]
      refine wpH_b ?_
      unfold Op.equal Op.maxDepth Op.equalIn
      exact wpH_b (wpH_under hb ⟨rfl, rfl⟩)
  case pointer.pointer p q =>
    simp only [binV] at H
    cases hkd : (cx.T t).kind <;> rw [hkd] at H <;> try exact False.elim H
    obtain ⟨e, hu, hi⟩ := cok.tok.ptr t hkd
    have key : ∀ (neg : Bool) (K2 : Bool → Prop), ptrEq p q neg K2 → ∃ b, K2 (cond neg (!b) b) ∧ wpH cx.P (Op.equal t (.pointer p) (.pointer q)) (fun u h' => u = b ∧ h' = h) h := by
      intro neg K2 H
      unfold ptrEq at H
      cases q with
      | none => exact ⟨_, H, eq_ptr ⟨e, hu⟩ ⟨rfl, rfl⟩⟩
      | some b =>
        cases p with
        | none =>
          refine ⟨false, by cases neg <;> exact H, ?_⟩
          unfold Op.equal Op.maxDepth Op.equalIn
          exact wpH_b (wpH_under hu ⟨rfl, rfl⟩)
        | some a =>
          obtain ⟨rfl, H⟩ := H
          refine ⟨true, by cases neg <;> exact H, ?_⟩
          unfold Op.equal Op.maxDepth Op.equalIn
          refine wpH_b (wpH_under hu ?_)
          obtain ⟨i, hi⟩ := Option.isSome_iff_exists.1 hi
          refine wpH_b (wpH_size hi ?_)
          by_cases hz : i.size = 0
          · rw [if_neg (by simp [hz])]
            rw [if_pos (by simp)]
            exact ⟨rfl, rfl⟩
          · rw [if_pos hz]
            unfold sameAddr
            rw [if_pos (by simp)]
            exact ⟨by simp, rfl⟩
    cases op <;> try exact False.elim H
    · obtain ⟨b, hb, hw⟩ := key _ _ H
      refine ⟨_, hb, wpH_b (guard_plain (by simp) (by simp) ?_)⟩
      simp only [binOp]
      refine wpH_b (wpH_mono _ ?_ hw)
      rintro u h' ⟨rfl, rfl⟩
      exact ⟨rfl, rfl⟩
    · obtain ⟨b, hb, hw⟩ := key _ _ H
      refine ⟨_, hb, wpH_b (guard_plain (by simp) (by simp) ?_)⟩
      simp only [binOp]
      refine wpH_b (wpH_mono _ ?_ hw)
      rintro u h' ⟨rfl, rfl⟩
      exact ⟨rfl, rfl⟩
  case slice.slice a l c b l' c' =>
    simp only [binV] at H
    cases hkd : (cx.T t).kind <;> rw [hkd] at H <;> try exact False.elim H
    rename_i e
    cases b with
    | some b => exact False.elim H
    | none =>
      have hw : wpH cx.P (Op.equal t (.slice a l c) (.slice none l' c')) (fun u h' => u = a.isNone ∧ h' = h) h := by
        unfold Op.equal Op.maxDepth Op.equalIn
        refine wpH_b (wpH_under (cok.tok.slice hkd) ?_)
        cases a <;> exact ⟨rfl, rfl⟩
      cases op <;> try exact False.elim H
      · refine ⟨_, H, wpH_b (guard_plain (by simp) (by simp) ?_)⟩
        simp only [binOp]
        refine wpH_b (wpH_mono _ ?_ hw)
        rintro u h' ⟨rfl, rfl⟩
        exact ⟨rfl, rfl⟩
      · refine ⟨_, H, wpH_b (guard_plain (by simp) (by simp) ?_)⟩
        simp only [binOp]
        refine wpH_b (wpH_mono _ ?_ hw)
        rintro u h' ⟨rfl, rfl⟩
        exact ⟨rfl, rfl⟩
  case map.map a b =>
    simp only [binV] at H
    cases hkd : (cx.T t).kind <;> rw [hkd] at H <;> try exact False.elim H
    rename_i k e
    cases b with
    | some b => exact False.elim H
    | none =>
      have hw : wpH cx.P (Op.equal t (.map a) (.map none)) (fun u h' => u = a.isNone ∧ h' = h) h := by
        unfold Op.equal Op.maxDepth Op.equalIn
        refine wpH_b (wpH_under (cok.tok.map hkd) ?_)
        cases a <;> exact ⟨rfl, rfl⟩
      cases op <;> try exact False.elim H
      · refine ⟨_, H, wpH_b (guard_plain (by simp) (by simp) ?_)⟩
        simp only [binOp]
        refine wpH_b (wpH_mono _ ?_ hw)
        rintro u h' ⟨rfl, rfl⟩
        exact ⟨rfl, rfl⟩
      · refine ⟨_, H, wpH_b (guard_plain (by simp) (by simp) ?_)⟩
        simp only [binOp]
        refine wpH_b (wpH_mono _ ?_ hw)
        rintro u h' ⟨rfl, rfl⟩
        exact ⟨rfl, rfl⟩
  case agg.agg xs ys =>
    simp only [binV] at H
    split at H
    · rename_i hb
      simp only [Bool.and_eq_true] at hb
      obtain ⟨h1, h2⟩ := cok.eqt t hb.1.1 xs ys h hb.1.2 hb.2.2 x y
      cases op <;> try exact False.elim H
      · exact ⟨_, H, h1⟩
      · exact ⟨_, H, h2⟩
    · exact False.elim H

theorem q_binOp (cok : CxOk cx) (hc : ∀ x, tmOk adr (opnd σ x) (ρ x)) {op : BinOp} {t t2 : TypeId} {x y : Operand} (H : vcQ cx ⟨dst, .binOp op t x y t2, ty, pos, after, guard⟩ K σ loc rd) :
    QRun cx.P adr ρ ⟨dst, .binOp op t x y t2, ty, pos, after, guard⟩ h K loc := by
  simp only [vcQ] at H
  cases hx : opnd σ x <;> cases hy : opnd σ y <;> rw [hx, hy] at H <;> try exact False.elim H
  obtain ⟨v, hk, hv⟩ := bin_ok (h := h) cok (x := x) (y := y) H
  refine QRun.mk' hk (wpH_v ?_)
  rw [q_val hc hx, q_val hc hy]
  exact wpH_mono _ (by rintro u h' ⟨rfl, rfl⟩; exact ⟨rfl, rfl⟩) hv

theorem q_unOp (hc : ∀ x, tmOk adr (opnd σ x) (ρ x)) {op : UnOp} {t : TypeId} {x : Operand} (H : vcQ cx ⟨dst, .unOp op t x, ty, pos, after, guard⟩ K σ loc rd) :
    QRun cx.P adr ρ ⟨dst, .unOp op t x, ty, pos, after, guard⟩ h K loc := by
  simp only [vcQ] at H
  cases op <;> cases hx : opnd σ x <;> rw [hx] at H <;> try exact False.elim H
  all_goals
    rename_i v
    cases v <;> try exact False.elim H
  · exact QRun.mk' (arithK_ok H) (wpH_v (by rw [q_val hc hx]; exact ⟨rfl, rfl⟩))
  · exact QRun.mk' H (wpH_v (by rw [q_val hc hx]; exact ⟨rfl, rfl⟩))

theorem q_makeFunc (hc : ∀ x, tmOk adr (opnd σ x) (ρ x)) {f : Fn} {fi ca : Array Operand} (H : vcQ cx ⟨dst, .makeFunc f fi ca, ty, pos, after, guard⟩ K σ loc rd) :
    QRun cx.P adr ρ ⟨dst, .makeFunc f fi ca, ty, pos, after, guard⟩ h K loc := by
  simp only [vcQ] at H
  cases h1 : vals σ fi.toList <;> cases h2 : vals σ ca.toList <;> rw [h1, h2] at H <;> try exact False.elim H
  rename_i a b
  have e1 : fi.map ρ = a.toArray := by apply Array.ext'; rw [Array.toList_map]; exact vals_ok hc _ _ h1
  have e2 : ca.map ρ = b.toArray := by apply Array.ext'; rw [Array.toList_map]; exact vals_ok hc _ _ h2
  exact QRun.mk' H (wpH_v (by rw [e1, e2]; exact ⟨rfl, rfl⟩))

theorem q_extract (hc : ∀ x, tmOk adr (opnd σ x) (ρ x)) {x : Operand} {i : Nat} (H : vcQ cx ⟨dst, .extract x i, ty, pos, after, guard⟩ K σ loc rd) :
    QRun cx.P adr ρ ⟨dst, .extract x i, ty, pos, after, guard⟩ h K loc := by
  simp only [vcQ] at H
  cases hx : opnd σ x <;> rw [hx] at H <;> try exact False.elim H
  rename_i v
  cases v <;> try exact False.elim H
  rename_i vs
  simp only at H
  cases hi : vs.toList[i]? <;> rw [hi] at H <;> try exact False.elim H
  rename_i v
  refine QRun.mk' H (wpH_v ?_)
  rw [q_val hc hx]
  have : vs[i]? = some v := by simpa using hi
  simp only [Instr.extract, this]
  exact ⟨rfl, rfl⟩

theorem q_fieldAddr (tok : TOk cx.P cx.T) (hc : ∀ x, tmOk adr (opnd σ x) (ρ x)) {s : TypeId} {x : Operand} {f : Nat} (H : vcQ cx ⟨dst, .fieldAddr s x f, ty, pos, after, guard⟩ K σ loc rd) :
    QRun cx.P adr ρ ⟨dst, .fieldAddr s x f, ty, pos, after, guard⟩ h K loc := by
  simp only [vcQ] at H
  cases hk : (cx.T s).kind <;> rw [hk] at H <;> try exact False.elim H
  rename_i offs ts
  simp only at H
  cases ho : offs[f]? <;> rw [ho] at H <;> try exact False.elim H
  rename_i off
  obtain ⟨fs, hu, h1, h2⟩ := tok.struct hk
  have hf : ∃ fd, fs[f]? = some fd ∧ fd.offset = off := by
    rw [← h1, List.getElem?_map] at ho
    cases hh : fs.toList[f]? with
    | none => simp [hh] at ho
    | some fd => exact ⟨fd, by simpa using hh, by simpa [hh] using ho⟩
  obtain ⟨fd, hfd, rfl⟩ := hf
  have hfld := tok.fields s offs ts hk fd.type (by rw [← h2]; exact List.mem_map_of_mem (by simpa using Array.mem_of_getElem? hfd))
  have main : ∀ a : Addr, ρ x = .pointer (some a) → wpH cx.P (execOp ρ ⟨dst, .fieldAddr s x f, ty, pos, after, guard⟩) (fun n h' => n = .value (.pointer (some (a.add fd.offset))) ∧ h' = h) h := by
    intro a ha
    refine wpH_v ?_
    unfold Instr.fieldAt
    refine wpH_b (wpH_under hu ?_)
    simp only [hfd]
    rw [ha]
    refine wpH_b ?_
    unfold Instr.sureAddr
    refine wpH_p (wpH_b ?_)
    unfold fieldPlace
    refine wpH_b (tok.size hfld.1 ?_)
    rw [if_neg hfld.2]
    exact ⟨rfl, rfl⟩
  simp only at H
  cases hx : opnd σ x with
  | any => rw [hx] at H; exact False.elim H
  | loc k o =>
    rw [hx] at H
    refine ⟨_, _, H, rfl, ?_⟩
    have := main _ (q_loc hc hx)
    have e : (⟨adr k, o, none⟩ : Addr).add fd.offset = ⟨adr k, o + fd.offset, none⟩ := by
      unfold Addr.add; split
      · rename_i h0; simp [h0]
      · rfl
    rw [e] at this
    exact this
  | val v =>
    rw [hx] at H
    cases v <;> try exact False.elim H
    rename_i p
    cases p <;> try exact False.elim H
    rename_i a
    exact QRun.mk' H (main a (q_val hc hx))
end
end Go.Proofs.YtkhfofnglkekoaaDoor
