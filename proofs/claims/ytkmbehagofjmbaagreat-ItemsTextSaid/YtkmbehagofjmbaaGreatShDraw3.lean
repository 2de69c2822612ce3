/-
  A region that draws its order, III: every order. No project text.
-/
import Derived.Test.YtkmbehagofjmbaaGreatShDraw2
namespace Go.Sh

section
variable {R : Type} {P : Program} {E : Sums R} {all : Array Oper}

/-- An operation looks at the same in both states. -/
def Agr (all : Array Oper) (o : Oper) (S S1 : St) : Prop := (∀ t ∈ o.looksAt all, nth S1.slots t = nth S.slots t) ∧ ∀ j ∈ readsOf S o.op, look S1.objs j = look S.objs j

theorem Agr.rd {o : Oper} {S S1 : St} (h : Agr all o S S1) : ∀ x ∈ o.op.operands, rd S1 x = rd S x := by
  intro x hx
  cases x with
  | tmp t => exact h.1 t (List.mem_append_left _ (List.mem_filterMap.2 ⟨.tmp t, by simpa using hx, rfl⟩))
  | const v => rfl
  | global g => rfl
  | func f => rfl

theorem readsOf_eq {op : Op} {S S1 : St} (hr : ∀ x ∈ op.operands, rd S1 x = rd S x) (h : ∀ j ∈ readsOf S op, look S1.objs j = look S.objs j) : readsOf S1 op = readsOf S op := by
  unfold readsOf at h ⊢
  cases hp : opPure op with
  | true => rfl
  | false =>
    rw [hp] at h
    exact opIds_eq hr h

theorem Agr.reads {o : Oper} {S S1 : St} (h : Agr all o S S1) : readsOf S1 o.op = readsOf S o.op := readsOf_eq h.rd h.2
theorem Agr.symm {o : Oper} {S S1 : St} (h : Agr all o S S1) : Agr all o S1 S := ⟨fun t ht => (h.1 t ht).symm, fun j hj => (h.2 j (by rw [← h.reads]; exact hj)).symm⟩
theorem Agr.trans {o : Oper} {S S1 S2 : St} (h : Agr all o S S1) (h' : Agr all o S1 S2) : Agr all o S S2 :=
  ⟨fun t ht => (h'.1 t ht).trans (h.1 t ht), fun j hj => (h'.2 j (by rw [h.reads]; exact hj)).trans (h.2 j hj)⟩
theorem Agr.refl (o : Oper) (S : St) : Agr all o S S := ⟨fun _ _ => rfl, fun _ _ => rfl⟩

theorem Agr.fp {o : Oper} {S S1 : St} (h : Agr all o S S1) (i : Nat) (v : SS) (es : List Ef) : fpOf all i o S1 v es = fpOf all i o S v es := by
  have e1 : looksSS all o S1 = looksSS all o S := List.map_congr_left fun t ht => h.1 t ht
  have e2 := h.reads
  have e3 : ((readsOf S o.op).flatMap fun j => obRefs (look S1.objs j)) = (readsOf S o.op).flatMap fun j => obRefs (look S.objs j) := by
    rw [List.flatMap_def, List.flatMap_def]
    congr 1
    exact List.map_congr_left fun j hj => by rw [h.2 j hj]
  have e4 : (readsOf S o.op).all (aliveAt S1.objs) = (readsOf S o.op).all (aliveAt S.objs) := by
    rw [Bool.eq_iff_iff, List.all_eq_true, List.all_eq_true]
    exact ⟨fun H j hj => by have := H j hj; unfold aliveAt at this ⊢; rw [← h.2 j hj]; exact this, fun H j hj => by have := H j hj; unfold aliveAt at this ⊢; rw [h.2 j hj]; exact this⟩
  simp only [fpOf, e1, e2, e3, e4]

theorem Agr.act {o : Oper} {S S1 : St} (h : Agr all o S S1) (d : Nat) (κ : SS → List Ef → Option R) :
    Sh.act P E (Sh.rd S1) (lkOf S1.objs (opIds S1 o.op)) d o.op κ = Sh.act P E (Sh.rd S) (lkOf S.objs (opIds S o.op)) d o.op κ := by
  rw [act_rf h.rd]
  have h2 := h.2
  unfold readsOf at h2
  cases hp : opPure o.op with
  | true => exact act_pure hp κ
  | false =>
    rw [hp] at h2
    simp only [cond_false] at h2
    rw [opIds_eq h.rd h2, lkOf_eq h2]

/-- In every state that looks alike the operation gives v and does es. -/
def Yields (P : Program) (E : Sums R) (all : Array Oper) (o : Oper) (S : St) (v : SS) (es : List Ef) : Prop :=
  ∀ S1, Agr all o S S1 → ∀ (κ' : SS → List Ef → St → Option R) (r' : R), κ' v es S1 = some r' → step2 P E all o S1 κ' = some r'

theorem step2_yields (hE : ∀ f g, E f = some g → DetSum g) {o : Oper} {S : St} {κ : SS → List Ef → St → Option R} {r : R} (h : step2 P E all o S κ = some r) :
    ∃ v es, κ v es S = some r ∧ Yields P E all o S v es := by
  unfold step2 at h
  split at h
  · rename_i hg
    obtain ⟨v, es, hv, hr⟩ := act_det hE h
    refine ⟨v, es, hv, fun S1 ha κ' r' hk => ?_⟩
    unfold step2
    rw [hg]
    simp only
    rw [ha.act]
    exact hr (fun v es => κ' v es S1) r' hk
  · rename_i j want hg
    split at h
    · cases h
    · rename_i t ht
      have htl : t ∈ o.looksAt all := by
        unfold Oper.looksAt
        rw [hg]
        simp [ht]
      split at h
      · rename_i b hb
        have key : ∀ c : Bool, b = c → (bif c == want then Sh.act P E (rd { S with slots := put S.slots t (.at (.bool c)) }) (lkOf S.objs (opIds { S with slots := put S.slots t (.at (.bool c)) } o.op)) (o.dst.getD 0) o.op fun v es => κ v es { S with slots := put S.slots t (.at (.bool c)) } else κ (.tup []) [] { S with slots := put S.slots t (.at (.bool c)) }) = some r →
            ∃ v es, κ v es S = some r ∧ Yields P E all o S v es := by
          rintro c rfl h
          rw [same_put hb] at h
          have back : ∀ S1, Agr all o S S1 → ∀ (κ' : SS → List Ef → St → Option R), step2 P E all o S1 κ' = (bif b == want then Sh.act P E (rd S) (lkOf S.objs (opIds S o.op)) (o.dst.getD 0) o.op fun v es => κ' v es S1 else κ' (.tup []) [] S1) := by
            intro S1 ha κ'
            have hb1 : nth S1.slots t = .val (.one (.at (.bool b))) := by rw [ha.1 t htl, hb]
            unfold step2
            rw [hg]
            simp only [ht, hb1]
            cases b with
            | true => simp only [cond_true]; rw [same_put hb1, ha.act]
            | false => simp only [cond_false]; rw [same_put hb1, ha.act]
          cases hw : (b == want) with
          | true =>
            rw [hw] at h
            simp only [cond_true] at h
            obtain ⟨v, es, hv, hr⟩ := act_det hE h
            refine ⟨v, es, hv, fun S1 ha κ' r' hk => ?_⟩
            rw [back S1 ha, hw]
            exact hr (fun v es => κ' v es S1) r' hk
          | false =>
            rw [hw] at h
            simp only [cond_false] at h
            refine ⟨.tup [], [], h, fun S1 ha κ' r' hk => ?_⟩
            rw [back S1 ha, hw]
            exact hk
        cases b with
        | true => exact key true rfl h
        | false => exact key false rfl h
      · rename_i hb
        refine ⟨.tup [], [], h, fun S1 ha κ' r' hk => ?_⟩
        have hb1 : nth S1.slots t = .tup [] := by rw [ha.1 t htl, hb]
        unfold step2
        rw [hg]
        simp only [ht, hb1]
        exact hk
      · cases h

abbrev post (o : Oper) (v : SS) (es : List Ef) (S : St) : St := setDst o v (apps es S)

theorem nth_setDst {o : Oper} {v : SS} {S : St} {t : Nat} (h : ∀ d, o.dst = some d → d ≠ t) : nth (setDst o v S).slots t = nth S.slots t := by
  unfold setDst
  split
  · rename_i d hd; exact nth_put_ne _ _ (h d hd)
  · rfl

theorem apps_setDst {o : Oper} {v : SS} {S : St} {es : List Ef} (h : killAllS (killsE es) v = v) : apps es (setDst o v S) = setDst o v (apps es S) := by
  have e1 : (apps es (setDst o v S)).objs = (setDst o v (apps es S)).objs := by rw [apps_objs es S _ (setDst_objs o v S), setDst_objs]
  have e2 : (apps es (setDst o v S)).slots = (setDst o v (apps es S)).slots := by
    rw [apps_slots]
    unfold setDst
    split
    · rw [put_killAll, h, apps_slots]
    · rw [apps_slots]
  have e3 : (apps es (setDst o v S)).pins = (setDst o v (apps es S)).pins := by
    rw [apps_pins es S _ (by unfold setDst; split <;> rfl)]
    unfold setDst
    split <;> rfl
  cases hx : apps es (setDst o v S)
  cases hy : setDst o v (apps es S)
  rw [hx, hy] at e1 e2 e3
  simp only at e1 e2 e3
  rw [e1, e2, e3]

theorem isNil_eq {α : Type} {l : List α} (h : isNil l = true) : l = [] := by cases l <;> first | rfl | cases h

/-- q looked behind what n did: it looks at the same ahead of it. -/
theorem agr_back {a o : Oper} {S : St} {va v : SS} {esa es : List Ef} {i k : Nat} (hap : a.apart all o = true) (h : isNil esa = true ∨ meetNot (fpOf all k a S va esa) (fpOf all i o (post a va esa S) v es) = true) :
    Agr all o (post a va esa S) S := by
  obtain ⟨p1, _, _⟩ := Oper.apart_spec hap
  have hslot : ∀ t ∈ o.looksAt all, nth (post a va esa S).slots t = killAllS (killsE esa) (nth S.slots t) := by
    intro t ht
    rw [nth_setDst fun d hd e => p1 d hd (e ▸ ht), apps_slots, nth_killAll]
  rcases h with h | h
  · have := isNil_eq h
    subst this
    exact ⟨fun t ht => (hslot t ht).symm, fun j _ => by rw [setDst_objs]; rfl⟩
  · simp only [meetNot, Bool.and_eq_true, Bool.or_eq_true] at h
    obtain ⟨h1, h2⟩ := h
    have hd := disj_spec h1
    simp only [fpOf, List.mem_append, not_or] at hd
    have hal : killsE esa = [] ∨ ((∀ t ∈ o.looksAt all, (nth (post a va esa S).slots t).alive = true) ∧ ∀ j ∈ readsOf (post a va esa S) o.op, aliveAt (post a va esa S).objs j = true) := by
      rcases h2 with h2 | ⟨h2, _⟩
      · exact .inl (isNil_eq h2)
      · refine .inr ?_
        simp only [fpOf, Bool.and_eq_true, List.all_eq_true] at h2
        exact ⟨fun t ht => ssAlive_mem h2.1 _ (List.mem_map.2 ⟨t, ht, rfl⟩), h2.2⟩
    refine ⟨fun t ht => ?_, fun j hj => ?_⟩
    · have h3 := hslot t ht
      rw [h3]
      rcases hal with h4 | ⟨h4, _⟩
      · rw [h4]; rfl
      · have := h4 t ht
        rw [h3] at this
        exact (killAllS_alive this).symm
    · obtain ⟨h5, h6⟩ := hd j hj
      have h7 := look_apps esa S h6 h5
      rw [setDst_objs, h7]
      cases hlk : look S.objs j with
      | none => rfl
      | some ob =>
        rcases hal with h4 | ⟨_, h4⟩
        · rw [h4]; rfl
        · have := h4 j hj
          unfold aliveAt at this
          rw [setDst_objs, h7, hlk] at this
          simp only [Option.map_some] at this ⊢
          rw [killAllO_alive this]

/-- q looked ahead of what n does: it looks at the same behind it. -/
theorem agr_fore {a o : Oper} {S : St} {va v : SS} {esa es : List Ef} {i k : Nat} {S' : St} (hap : o.apart all a = true) (h : isNil es = true ∨ meetNot (fpOf all i o S' v es) (fpOf all k a S va esa) = true) :
    Agr all a S (post o v es S) := by
  obtain ⟨p1, _, _⟩ := Oper.apart_spec hap
  have hslot : ∀ t ∈ a.looksAt all, nth (post o v es S).slots t = killAllS (killsE es) (nth S.slots t) := by
    intro t ht
    rw [nth_setDst fun d hd e => p1 d hd (e ▸ ht), apps_slots, nth_killAll]
  rcases h with h | h
  · have := isNil_eq h
    subst this
    exact ⟨fun t ht => hslot t ht, fun j _ => by rw [setDst_objs]; rfl⟩
  · simp only [meetNot, Bool.and_eq_true, Bool.or_eq_true] at h
    obtain ⟨h1, h2⟩ := h
    have hd := disj_spec h1
    simp only [fpOf, List.mem_append, not_or] at hd
    have hfree : killsE es = [] ∨ ∀ x ∈ (fpOf all k a S va esa).touch, x ∉ killsE es := by
      rcases h2 with h2 | ⟨_, h2⟩
      · exact .inl (isNil_eq h2)
      · exact .inr (disj_spec h2)
    refine ⟨fun t ht => ?_, fun j hj => ?_⟩
    · rw [hslot t ht]
      rcases hfree with h4 | h4
      · rw [h4]; rfl
      · refine killAllS_free fun x hx => h4 x ?_
        simp only [fpOf, List.mem_append]
        exact .inl (.inl (ssRefs_mem (List.mem_map.2 ⟨t, ht, rfl⟩) x hx))
    · obtain ⟨h5, h6⟩ := hd j hj
      have h7 := look_apps es S h6 h5
      rw [setDst_objs, h7]
      cases hlk : look S.objs j with
      | none => rfl
      | some ob =>
        rcases hfree with h4 | h4
        · rw [h4]; rfl
        · simp only [Option.map_some]
          rw [killAllO_free fun x hx => h4 x ?_]
          simp only [fpOf, List.mem_append]
          refine .inl (.inr (List.mem_flatMap.2 ⟨j, hj, ?_⟩))
          rw [hlk]
          exact hx

theorem free_val {n : Fp} {o : Oper} {S : St} {v : SS} {es : List Ef} {i : Nat} (h : meetNot n (fpOf all i o S v es) = true) : killAllS (killsE n.es) v = v := by
  simp only [meetNot, Bool.and_eq_true, Bool.or_eq_true] at h
  rcases h.2 with h2 | ⟨_, h2⟩
  · rw [isNil_eq h2]; rfl
  · have := disj_spec h2
    refine killAllS_free fun x hx => this x ?_
    simp only [fpOf, List.mem_append]
    exact .inr hx

theorem indep_symm (p q : Fp) : indep p q = indep q p := by
  unfold indep
  cases p.es <;> cases q.es <;> rfl

theorem indep_cases {p q : Fp} (h : indep p q = true) : (isNil p.es = true ∧ isNil q.es = true) ∨ (isNil p.es = true ∧ meetNot q p = true) ∨ (isNil q.es = true ∧ meetNot p q = true) := by
  unfold indep at h
  cases hp : p.es <;> cases hq : q.es <;> rw [hp, hq] at h <;> simp_all [isNil]

theorem hist_eq {os : Array Oper} {befs : List Nat} : ∀ (L : List Nat) {H1 H2 : List Fp} (S : St) (κ : St → Option R), (∀ f, H1.all f = H2.all f) → opsD P E os befs L H1 S κ = opsD P E os befs L H2 S κ
  | [], _, _, _, _, _ => rfl
  | i :: L, H1, H2, S, κ, h => by
    simp only [opsD]
    split
    · rfl
    · rename_i o ho
      congr 1
      funext v es S0
      rw [h]
      rw [hist_eq L (H1 := fpOf os i o S0 v es :: H1) (H2 := fpOf os i o S0 v es :: H2) _ κ fun f => by simp only [List.all_cons, h]]

/-- An operation that nothing ahead of it must precede may be taken first. -/
theorem take_first (hE : ∀ f g, E f = some g → DetSum g) {os : Array Oper} {befs : List Nat} {i : Nat} {o : Oper} (ho : os[i]? = some o) : ∀ (A : List Nat) {B : List Nat} {H : List Fp} {S : St} {κ : St → Option R} {r : R},
    (∀ a ∈ A, (befs.getD i 0).testBit a = false) → opsD P E os befs (A ++ i :: B) H S κ = some r →
    ∃ v es, Yields P E os o S v es ∧ H.all (chk befs os (fpOf os i o S v es)) = true ∧ opsD P E os befs (A ++ B) (fpOf os i o S v es :: H) (post o v es S) κ = some r
  | [], B, H, S, κ, r, _, h => by
    simp only [List.nil_append, opsD, ho] at h
    obtain ⟨v, es, hv, hy⟩ := step2_yields hE h
    obtain ⟨hc, hv⟩ := bif_some hv
    exact ⟨v, es, hy, hc, hv⟩
  | a :: A, B, H, S, κ, r, hA, h => by
    simp only [List.cons_append, opsD] at h
    split at h
    · cases h
    · rename_i oa hoa
      obtain ⟨va, esa, hva, hya⟩ := step2_yields hE h
      obtain ⟨hca, hva⟩ := bif_some hva
      obtain ⟨v, es, hy, hall, hrun⟩ := take_first hE ho A (fun b hb => hA b (.tail _ hb)) hva
      simp only [List.all_cons, Bool.and_eq_true] at hall
      obtain ⟨hchk, hH⟩ := hall
      have hnb := hA a (.head _)
      simp only [chk, fpOf, ho, hoa, Bool.or_eq_true, Bool.and_eq_true] at hchk
      have hchk : (o.apart os oa = true ∧ oa.apart os o = true) ∧ indep (fpOf os a oa S va esa) (fpOf os i o (post oa va esa S) v es) = true := by
        rcases hchk with hchk | hchk
        · rw [hnb] at hchk; cases hchk
        · exact hchk
      obtain ⟨⟨hap1, hap2⟩, hind⟩ := hchk
      have hback : Agr os o (post oa va esa S) S := by
        rcases indep_cases hind with ⟨h1, _⟩ | ⟨h1, _⟩ | ⟨_, h1⟩
        · exact agr_back (k := a) (i := i) (v := v) (es := es) hap2 (.inl h1)
        · exact agr_back (k := a) (i := i) (v := v) (es := es) hap2 (.inl h1)
        · exact agr_back hap2 (.inr h1)
      have hfpi : fpOf os i o (post oa va esa S) v es = fpOf os i o S v es := (hback.fp i v es).symm
      have hfore : Agr os oa S (post o v es S) := by
        rcases indep_cases hind with ⟨_, h1⟩ | ⟨_, h1⟩ | ⟨h1, _⟩
        · exact agr_fore (k := a) (i := i) (va := va) (esa := esa) (S' := S) hap1 (.inl h1)
        · exact agr_fore hap1 (.inr h1)
        · exact agr_fore (k := a) (i := i) (va := va) (esa := esa) (S' := S) hap1 (.inl h1)
      have hcomm : post oa va esa (post o v es S) = post o v es (post oa va esa S) := by
        rcases indep_cases hind with ⟨h1, h2⟩ | ⟨h1, h2⟩ | ⟨h1, h2⟩
        · have e1 := isNil_eq h1
          have e2 := isNil_eq h2
          simp only [fpOf] at e1 e2
          subst e1; subst e2
          exact setDst_comm hap1 v va S
        · have e1 := isNil_eq h1
          simp only [fpOf] at e1
          subst e1
          show setDst oa va (setDst o v (apps es S)) = setDst o v (apps es (setDst oa va S))
          have hf : killAllS (killsE es) va = va := free_val h2
          rw [apps_setDst hf]
          exact setDst_comm hap1 v va _
        · have e1 := isNil_eq h1
          simp only [fpOf] at e1
          subst e1
          show setDst oa va (apps esa (setDst o v S)) = setDst o v (setDst oa va (apps esa S))
          have hf : killAllS (killsE esa) v = v := free_val h2
          rw [apps_setDst hf]
          exact setDst_comm hap1 v va _
      rw [hfpi] at hH hrun hind
      refine ⟨v, es, fun S1 h1 => hy S1 (hback.trans h1), hH, ?_⟩
      simp only [List.cons_append, opsD, hoa]
      refine hya _ hfore _ _ ?_
      rw [hfore.fp]
      have hck : (fpOf os i o S v es :: H).all (chk befs os (fpOf os a oa S va esa)) = true := by
        simp only [List.all_cons, hca, Bool.and_true]
        simp only [chk, fpOf, ho, hoa, Bool.or_eq_true, Bool.and_eq_true]
        exact .inr ⟨⟨hap2, hap1⟩, by rw [indep_symm]; exact hind⟩
      rw [hck, cond_true]
      show opsD P E os befs (A ++ B) _ (post oa va esa (post o v es S)) κ = some r
      rw [hcomm, ← hrun]
      refine hist_eq _ _ _ fun f => ?_
      simp only [List.all_cons]
      rw [← Bool.and_assoc, ← Bool.and_assoc, Bool.and_comm (f (fpOf os a oa S va esa))]

end

section
variable {R : Type} {C : Ctx} {ds : List Deferred} {E : Sums R} {os : Array Oper}

theorem step2_wp (hE : ∀ f g, E f = some g → SumOk C f g) {i : Nat} {o : Oper} (hi : os[i]? = some o) {Q : Exit → Act → World → Prop} {K : Act → World → Prop} {κ : St → Option R} {r : R} {hd : Nat → Value} {S : St} {tmps : Array Value} {w : World}
    (I : Inv C hd S tmps w) (h : step2 C.P E os o S (fun v es S => κ (setDst o v (apps es S))) = some r) (hK : ∀ hd' S' tmps' w', κ S' = some r → Inv C hd' S' tmps' w' → K { tmps := tmps', defers := ds } w') :
    wpOp C.P os Q i K { tmps, defers := ds } w := by
  have go : ∀ (S1 : St), Inv C hd S1 tmps w → (act C.P E (rd S1) (lkOf S1.objs (opIds S1 o.op)) (o.dst.getD 0) o.op fun v es => κ (setDst o v (apps es S1))) = some r → o.wp C.P { tmps, defers := ds } w K Q := by
    intro S1 I1 h1
    refine act_wp (κ := fun v S => κ (setDst o v S)) hE I1 h1 ?_
    intro v w' hd' S' s hk I' hs
    obtain ⟨tmps', hp, I2⟩ := put_dst (o := o) (ds := ds) I' hs
    rw [hp]
    exact hK _ _ _ _ hk I2
  have skip : ∀ (S1 : St), Inv C hd S1 tmps w → κ (setDst o (.tup []) S1) = some r → K (({ tmps, defers := ds } : Act).put o.dst undef) w := by
    intro S1 I1 h1
    obtain ⟨tmps', hp, I2⟩ := put_dst (o := o) (ds := ds) I1 (undef_rel w _ hd)
    rw [hp]
    exact hK _ _ _ _ h1 I2
  unfold wpOp
  simp only [hi]
  unfold step2 at h
  split at h
  · rename_i hg
    rw [if_pos (by simp [Region.wanted, hg])]
    exact .inl (go S I h)
  · rename_i j want hg
    split at h
    · cases h
    · rename_i t ht
      split at h
      · rename_i b hb
        obtain ⟨x, hx, hxb⟩ := all2_nth_at t I.slots hb
        have hxb : x = .bool b := hxb
        subst hxb
        have hy : yielded os tmps j = some b := by
          have : tmps[t]? = some (.bool b) := by simpa using hx
          simp [yielded, ht, this]
        have hw : Region.wanted o (yielded os tmps) = (b == want) := by simp [Region.wanted, hg, hy]
        rw [hw]
        have I1 : ({ S with slots := put S.slots t (.at (.bool b)) } : St) = S := same_put hb
        cases b with
        | true =>
          simp only [cond_true] at h
          rw [I1] at h
          cases hwant : (true == want) with
          | true => rw [hwant] at h; rw [if_pos rfl]; exact .inl (go _ I h)
          | false => rw [hwant] at h; rw [if_neg (by simp)]; exact skip _ I h
        | false =>
          simp only [cond_false] at h
          rw [I1] at h
          cases hwant : (false == want) with
          | true => rw [hwant] at h; rw [if_pos rfl]; exact .inl (go _ I h)
          | false => rw [hwant] at h; rw [if_neg (by simp)]; exact skip _ I h
      · rename_i hb
        have hw : Region.wanted o (yielded os tmps) = false := by simp [Region.wanted, hg, not_yielded I ht hb]
        rw [hw, if_neg (by simp)]
        exact skip _ I h
      · cases h

theorem Inv.drew {hd : Nat → Value} {S : St} {tmps : Array Value} {w : World} (I : Inv C hd S tmps w) : Inv C hd S tmps { w with drawn := w.drawn + 1 } := by
  have k : Keeps w w.drew (C.F hd S) (C.F hd S) := ⟨fun _ _ _ => rfl, fun _ _ h => h⟩
  have kc : ∀ c v, CvRel w (C.F hd S) hd c v → CvRel w.drew (C.F hd S) hd c v := by
    intro c v h
    cases c with
    | one v => exact SVRel.keep k (fun _ _ => rfl) h
    | agg l => obtain ⟨cs, hx, hl⟩ := h; exact ⟨cs, hx, all2.mono (fun a x hx => SVRel.keep k (fun _ _ => rfl) hx) hl⟩
  refine ⟨all2.mono (fun s v h => ?_) I.slots, fun p hp => ObRel.keep k rfl (fun b _ => rfl) (I.objs p hp), I.nodup, I.apart, I.place, ⟨I.still.os, I.still.tape, I.still.output, I.still.size, I.still.block⟩, I.pins⟩
  cases s with
  | val c => exact kc c v h
  | tup l => obtain ⟨vs, hx, hl⟩ := h; exact ⟨vs, hx, all2.mono kc hl⟩

/-- What has not come up yet, in the text's order. -/
def rest (os : Array Oper) (listed : Array Bool) : List Nat := (List.range os.size).filter fun i => !listed.getD i true

theorem rest_sorted (os : Array Oper) (listed : Array Bool) : (rest os listed).Pairwise (· < ·) := (List.pairwise_lt_range).filter _

theorem rest_set {listed : Array Bool} {i : Nat} (hi : i ∈ rest os listed) (hsz : listed.size = os.size) {A B : List Nat} (h : rest os listed = A ++ i :: B) : rest os (listed.setIfInBounds i true) = A ++ B := by
  have hs := rest_sorted os listed
  rw [h] at hs
  have hnd : (A ++ i :: B).Nodup := hs.imp (fun h => Nat.ne_of_lt h)
  have e : rest os (listed.setIfInBounds i true) = (rest os listed).filter fun j => j != i := by
    unfold rest
    rw [List.filter_filter]
    apply List.filter_congr
    intro j hj
    have hj' : j < listed.size := by rw [hsz]; simpa using hj
    by_cases hji : j = i
    · subst hji
      simp [Array.getD_eq_getD_getElem?, hj']
    · have : (listed.setIfInBounds i true).getD j true = listed.getD j true := by
        simp [Array.getD_eq_getD_getElem?, Array.getElem?_setIfInBounds_ne (Ne.symm hji)]
      rw [this]
      simp [hji]
  rw [e, h, List.filter_append, List.filter_cons]
  have hA : A.filter (fun j => j != i) = A := List.filter_eq_self.2 fun j hj => by
    have := List.nodup_append.1 hnd
    simpa using this.2.2 j hj i (.head _)
  have hB : B.filter (fun j => j != i) = B := List.filter_eq_self.2 fun j hj => by
    have := (List.nodup_cons.1 (List.nodup_append.1 hnd).2.1).1
    simp only [bne_iff_ne, ne_eq]
    rintro rfl
    exact this hj
  simp [hA, hB]

theorem all_zipIdx {l : List Oper} {p : Oper × Nat → Bool} (h : l.zipIdx.all p = true) {i : Nat} {o : Oper} (hi : l[i]? = some o) : p (o, i) = true := by
  rw [List.all_eq_true] at h
  refine h (o, i) ?_
  rw [List.mem_zipIdx_iff_getElem?]
  simpa using hi

def DepsListed (os : Array Oper) (k : Nat) (listed : Array Bool) : Prop := ∀ o, os[k]? = some o → ∀ e ∈ o.after, Region.binds .any e = true → listed.getD e.on false = true
def Closed (os : Array Oper) (listed : Array Bool) : Prop := ∀ k, listed.getD k false = true → DepsListed os k listed
def Needs (os : Array Oper) (k j : Nat) : Prop := ∀ listed, Closed os listed → DepsListed os k listed → listed.getD j false = true

theorem row_bit (acc : List Nat) (j : Nat) : ∀ (l : List Edge) (s : Nat), (l.foldl (fun s e => bif Region.binds .any e then s ||| 2 ^ e.on ||| acc.getD e.on 0 else s) s).testBit j = true →
    s.testBit j = true ∨ ∃ e ∈ l, Region.binds .any e = true ∧ (j = e.on ∨ (acc.getD e.on 0).testBit j = true)
  | [], s, h => .inl h
  | e :: l, s, h => by
    rcases row_bit acc j l _ h with h | ⟨e', he', h⟩
    · cases hb : Region.binds .any e with
      | false => simp only [hb, cond_false] at h; exact .inl h
      | true =>
        simp only [hb, cond_true, Nat.testBit_or, Bool.or_eq_true, Nat.testBit_two_pow, decide_eq_true_eq] at h
        rcases h with (h | h) | h
        · exact .inl h
        · exact .inr ⟨e, .head _, hb, .inl h.symm⟩
        · exact .inr ⟨e, .head _, hb, .inr h⟩
    · exact .inr ⟨e', .tail _ he', h⟩

theorem befores_ok : ∀ (l : List Oper) (acc : List Nat), os.toList.drop acc.length = l → (∀ k m, acc[k]? = some m → ∀ j, m.testBit j = true → Needs os k j) →
    ∀ k m, (befores l acc)[k]? = some m → ∀ j, m.testBit j = true → Needs os k j
  | [], acc, _, h => h
  | o :: l, acc, hd, h => by
    refine befores_ok l _ ?_ ?_
    · rw [List.length_append, List.length_singleton, ← List.drop_drop, hd]; rfl
    · intro k m hk j hj
      rw [List.getElem?_append] at hk
      split at hk
      · exact h k m hk j hj
      · rename_i hge
        have hk0 : k = acc.length := by
          rcases Nat.lt_or_ge (k - acc.length) 1 with h' | h'
          · omega
          · rw [List.getElem?_eq_none (by simpa using h')] at hk; cases hk
        subst hk0
        simp only [Nat.sub_self, List.getElem?_cons_zero, Option.some.injEq] at hk
        subst hk
        have ho : os[acc.length]? = some o := by
          have := congrArg (·[0]?) hd
          simpa [List.getElem?_drop] using this
        intro listed hc hdeps
        rw [← Array.foldl_toList] at hj
        rcases row_bit acc j o.after.toList 0 hj with hj | ⟨e, he, hbd, hj | hj⟩
        · simp at hj
        · rw [hj]; exact hdeps o ho e (by simpa using he) hbd
        · have hm : acc[e.on]? = some (acc.getD e.on 0) := by
            cases hq : acc[e.on]? with
            | none => simp [List.getD, hq] at hj
            | some m => simp [List.getD, hq]
          exact h e.on _ hm j hj listed hc (hc e.on (hdeps o ho e (by simpa using he) hbd))

end
end Go.Sh
