/- Own verification-condition framework, part J: operations on memory do what their formulas say. Conditions: none. -/
import Derived.Test.YtkhfofnglkekoaaDoorVcI
namespace Go.Proofs.YtkhfofnglkekoaaDoor

/-- What an operation on memory comes to. -/
def EK (P : Program) (K : Value → Hp → Prop) (n : Next) (h : Hp) : Prop :=
  match n with
  | .value v => K v h
  | .skip => K undef h
  | .enter f args => FnH P f args h K
  | _ => False

theorem vEx1_ex {t : TI} {K : Value → Prop} (H : vEx1 t K) : ∃ v, K v := by
  obtain ⟨vs, _, h⟩ := vEx1_some H
  exact ⟨_, h⟩
theorem vExs_ex {T : Nat → TI} : ∀ {l : List TypeId} {K : List Value → Prop}, vExs T l K → ∃ vs, K vs
  | [], _, H => ⟨[], H⟩
  | t :: r, K, H => by
    unfold vExs at H
    obtain ⟨v, H⟩ := vEx1_ex H
    obtain ⟨vs, H⟩ := vExs_ex H
    exact ⟨_, H⟩
theorem vEx_ex {T : Nat → TI} {t : TypeId} {K : Value → Prop} (H : vEx T t K) : ∃ v, K v := by
  unfold vEx at H
  split at H
  · obtain ⟨vs, H⟩ := vExs_ex H
    exact ⟨_, H⟩
  · exact vEx1_ex H

theorem set_eq {h h' : Hp} {b : Nat} {o : Obj} (e1 : ∀ i, i ≠ b → h' i = h i) (e2 : h' b = some o) : h' = h.set b o := by
  funext i
  by_cases e : i = b
  · subst e; rw [e2, Hp.set_same]
  · rw [e1 i e, Hp.set_ne _ _ e]

theorem set_set (h : Hp) (b : Nat) (o o' : Obj) : (h.set b o).set b o' = h.set b o' := by
  funext i
  by_cases e : i = b
  · subst e; rw [Hp.set_same, Hp.set_same]
  · rw [Hp.set_ne _ _ e, Hp.set_ne _ _ e, Hp.set_ne _ _ e]

theorem leaf_all {vs : List Value} (h : vs.all leafB = true) : ∀ v ∈ vs, leafV v := by
  intro v hv
  have := List.all_eq_true.1 h v hv
  cases v <;> simp [leafB] at this <;> trivial

/-- A row of cells written. -/
theorem wpH_HSt {P : Program} {h : Hp} {a : Addr} {vs : List Value} {K : Hp → Prop} {K' : Unit → Hp → Prop} (hl : vs.all leafB = true) (H : HSt h a vs K) (hk : ∀ h', K h' → K' () h') : wpH P (storeCells a vs) K' h := by
  obtain ⟨hs, c, e, fr, hb, hle, hfr, H⟩ := H
  refine wpH_storeCells (e := e) (fr := fr) hs vs 0 c.toList (leaf_all hl) (by simpa using hb) (by simpa using hle) (fun j h1 h2 => hfr j (by simpa using h1) (by simpa using h2)) (fun h' e1 e2 => ?_)
  rw [set_eq e1 e2]
  simpa using hk _ H

theorem repl_len : ∀ (n : Nat) (z : List Value), (repl n z).length = n * z.length
  | 0, z => by simp [repl]
  | n + 1, z => by simp [repl, repl_len n z, Nat.add_mul]; omega

theorem repl_get : ∀ (n : Nat) (z : List Value) (i : Nat), i < n * z.length → (repl n z)[i]? = z[i % z.length]?
  | 0, z, i, h => by simp at h
  | n + 1, z, i, h => by
    unfold repl
    by_cases hi : i < z.length
    · rw [List.getElem?_append_left hi, Nat.mod_eq_of_lt hi]
    · have hge : z.length ≤ i := by omega
      rw [List.getElem?_append_right hge, repl_get n z _ (by rw [Nat.add_mul] at h; omega)]
      congr 1
      rw [Nat.mod_eq_sub_mod hge]

theorem range_repl {z : Array Value} {n : Nat} : ((Array.range (n * z.size)).map fun i => z[i % z.size]!).toList = repl n z.toList := by
  apply List.ext_getElem?
  intro i
  by_cases hi : i < n * z.size
  · rw [repl_get n z.toList i (by simpa using hi)]
    have hz : 0 < z.size := by
      rcases Nat.eq_zero_or_pos z.size with h0 | h0
      · rw [h0] at hi; simp at hi
      · exact h0
    have hm : i % z.size < z.size := Nat.mod_lt _ hz
    simp [hi, hm]
  · rw [List.getElem?_eq_none (by simpa using hi), List.getElem?_eq_none (by rw [repl_len]; simpa using hi)]

section
variable {cx : Cx} {adr : Nat → Nat} {ρ : Operand → Value} {σ : Env} {h : Hp} {K : Value → Hp → Prop}
  {dst : Option Tmp} {ty : TypeId} {pos : String} {after : Array Edge} {guard : Option (Nat × Bool)}

theorem e_call (cok : CxOk cx) (hd : dst = none → ∀ u v h', K u h' → K v h') (hc : ∀ x, tmOk adr (opnd σ x) (ρ x)) {f : Operand} {args : Array Operand} {ats : Array TypeId}
    (H : vcE cx ⟨dst, .call ⟨.value f, args, ats⟩, ty, pos, after, guard⟩ K σ h) : wpH cx.P (execOp ρ ⟨dst, .call ⟨.value f, args, ats⟩, ty, pos, after, guard⟩) (EK cx.P K) h := by
  simp only [vcE] at H
  cases hv : vals σ args.toList with
  | none => 
    rw [hv] at H
    split at H <;> first | exact False.elim H | simp_all
  | some vs =>
    have e1 : args.map ρ = vs.toArray := by apply Array.ext'; rw [Array.toList_map]; exact vals_ok hc _ _ hv
    rw [hv] at H
    have callF : ∀ (g : Nat) (fi ca : Array Value), ρ f = .func (.func g) fi ca → ∀ {K2 : Next → Hp → Prop}, wpH cx.P (callFunc g (fi ++ vs.toArray ++ ca)) K2 h →
        wpH cx.P (execOp ρ ⟨dst, .call ⟨.value f, args, ats⟩, ty, pos, after, guard⟩) K2 h := by
      intro g fi ca hf K2 hK
      simp only [execOp, resolve, e1, hf, Deferred.ofValue]
      exact wpH_b (wpH_p hK)
    by_cases h0 : extN cx f = 0
    · rw [h0] at H
      simp only at H
      cases hf : opnd σ f <;> rw [hf] at H <;> try exact False.elim H
      rename_i v
      cases v <;> try exact False.elim H
      rename_i g fi ca
      simp only [fnM] at H
      cases g <;> try exact False.elim H
      rename_i g
      simp only [fnsM] at H
      cases hg : cx.fns g <;> rw [hg] at H <;> try exact False.elim H
      refine callF g fi ca (q_val hc hf) ?_
      obtain ⟨fn, hfn, hbody, hname⟩ := cok.fns g hg
      unfold callFunc
      refine wpH_b ?_
      show wpH cx.P (match cx.P.funcs[g]? with | none => _ | some fn => _) _ h
      rw [hfn]
      simp only [hname, hbody, Bool.false_eq_true, if_false]
      refine wpH_p ?_
      have ea : fi ++ vs.toArray ++ ca = (fi.toList ++ vs ++ ca.toList).toArray := by apply Array.ext'; simp
      rw [ea]
      show FnH _ _ _ _ _
      cases dst with
      | none => exact FnH.mono H (fun v h' hk => hd rfl _ _ _ hk)
      | some d =>
        refine FnH.mono H (fun v h' hk => ?_)
        obtain ⟨u, hvu, hk⟩ := vEx_ex hk
        rw [hvu]; exact hk
    · obtain ⟨g, rfl⟩ : ∃ g, f = .func g := by
        cases f <;> first | exact ⟨_, rfl⟩ | exact absurd rfl h0
      simp only [extN] at h0 H
      refine callF g #[] #[] (q_val hc rfl) ?_
      obtain ⟨fn, hfn, hbody, hname, hnx, hfd⟩ := cok.ext g h0
      unfold callFunc
      refine wpH_b ?_
      show wpH cx.P (match cx.P.funcs[g]? with | none => _ | some fn => _) _ h
      rw [hfn]
      simp only [hname, hbody, Bool.false_eq_true, if_false, if_true, hnx, hfd]
      refine wpH_b ?_
      show wpH cx.P (do pure (Next.value (← extF (cx.ext g) (#[] ++ vs.toArray ++ #[])))) (EK cx.P K) h
      refine wpH_v ?_
      have ea : (#[] : Array Value) ++ vs.toArray ++ #[] = vs.toArray := by simp
      rw [ea]
      have hH : extV (cx.ext g) vs fun v => K v h := by
        generalize cx.ext g = e at h0 H
        cases e with
        | zero => exact absurd rfl h0
        | succ e => exact H
      generalize cx.ext g = e at hH
      unfold extV at hH
      split at hH <;> try exact False.elim hH
      · rename_i s c
        show wpH cx.P (Extern.BytealgCount.count #[.string s, .int .u8 c]) (fun v h' => EK cx.P K (.value v) h') h
        unfold Extern.BytealgCount.count
        refine wpH_b (wpH_p (wpH_b (wpH_p ?_)))
        exact hH
      · rename_i s c
        show wpH cx.P (Extern.BytealgIndexByte.indexByte #[.string s, .int .u8 c]) (fun v h' => EK cx.P K (.value v) h') h
        unfold Extern.BytealgIndexByte.indexByte
        refine wpH_b (wpH_p (wpH_b (wpH_p ?_)))
        unfold idxB at hH
        cases hfi : (List.range s.size).find? fun i => s[i]! == c.toNat.toUInt8 with
        | none => rw [hfi] at hH; exact hH
        | some i => rw [hfi] at hH; exact hH
      · rename_i a b
        show wpH cx.P (Extern.BytealgCompare.compare #[.string a, .string b]) (fun v h' => EK cx.P K (.value v) h') h
        unfold Extern.BytealgCompare.compare
        refine wpH_b (wpH_p (wpH_b (wpH_p ?_)))
        exact hH
end

end Go.Proofs.YtkhfofnglkekoaaDoor
