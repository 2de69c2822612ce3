/-
  Contracts over the shadow evaluator: how they are used, how they are proved. No project text.
-/
import Derived.Test.YtpjfaodemfjfjaaShLoop
namespace Go.Sh

section
variable {C : Ctx} {hd : Nat → Value} {S : St} {tmps : Array Value} {w w' : World}

def RPat.ty : RPat → Ty
  | .one t | .agg t | .own _ t => t

theorem resEf_none (d : Nat) : ∀ (res : List RPat) (y : resDen res), resOwns res = 0 → resEf d res y = []
  | [], _, _ => rfl
  | .one _ :: l, y, h => by simp only [resOwns, RPat.owns, Nat.zero_add] at h; exact resEf_none d l y.2 h
  | .agg _ :: l, y, h => by simp only [resOwns, RPat.owns, Nat.zero_add] at h; exact resEf_none d l y.2 h
  | .own _ _ :: l, y, h => by simp only [resOwns, RPat.owns] at h; omega

theorem resEf_one {B : Nat} {G : Nat → Prop} (d : Nat) : ∀ (res : List RPat) (y : resDen res) (vs : List Value), resOwns res = 1 → resRel B w' G res y vs →
    ∃ e t l v xs, resEf d res y = [.renew d (.arr e t l)] ∧ w'.ownsRow B e t.nc v l.length xs ∧ rows (t.cells w' G) l xs ∧ (∀ b, blk v = some b → G b) ∧ RPat.own e t ∈ res ∧
      (∀ (F' : Nat → Prop) (hd' : Nat → Value), hd' d = v → (∀ r ∈ res, ∀ (x : r.ty.den) cs, r.ty.cells w' G x cs → r.ty.cells w' F' x cs) → all2 (CvRel w' F' hd') (resCvs d res y) vs)
  | [], _, _, h, _ => by simp [resOwns] at h
  | .one t :: l, y, vs, h, hr => by
    simp only [resOwns, RPat.owns, Nat.zero_add] at h
    obtain ⟨v, r, rfl, hc, hr⟩ := hr
    obtain ⟨e, t', l', v', xs, h1, h2, h3, h4, h5, h6⟩ := resEf_one d l y.2 r h hr
    exact ⟨e, t', l', v', xs, h1, h2, h3, h4, .tail _ h5, fun F' hd' hv hconv => ⟨encOne_ok t y.1 v (hconv _ (.head _) y.1 [v] hc), h6 F' hd' hv fun r hr => hconv r (.tail _ hr)⟩⟩
  | .agg t :: l, y, vs, h, hr => by
    simp only [resOwns, RPat.owns, Nat.zero_add] at h
    obtain ⟨cs, r, rfl, hc, hr⟩ := hr
    obtain ⟨e, t', l', v', xs, h1, h2, h3, h4, h5, h6⟩ := resEf_one d l y.2 r h hr
    exact ⟨e, t', l', v', xs, h1, h2, h3, h4, .tail _ h5, fun F' hd' hv hconv => ⟨⟨cs, rfl, enc_ok t y.1 _ (hconv _ (.head _) y.1 _ hc)⟩, h6 F' hd' hv fun r hr => hconv r (.tail _ hr)⟩⟩
  | .own e t :: l, y, vs, h, hr => by
    simp only [resOwns, RPat.owns] at h
    have h0 : resOwns l = 0 := by omega
    obtain ⟨v, r, xs, rfl, ho, hrow, hG, hr⟩ := hr
    refine ⟨e, t, y.1, v, xs, by simp only [resEf, resEf_none d l y.2 h0], ho, hrow, hG, .head _, fun F' hd' hv hconv => ⟨?_, ?_⟩⟩
    · refine ⟨hv.symm, ?_⟩
      rcases ho.2 with ⟨rfl, _⟩ | ⟨g, cap, cur, rfl, _⟩
      · exact ⟨_, _, _, rfl⟩
      · exact ⟨_, _, _, rfl⟩
    · have rest : ∀ (l : List RPat) (y : resDen l) (r : List Value), resOwns l = 0 → resRel B w' G l y r → (∀ r ∈ l, ∀ (x : r.ty.den) cs, r.ty.cells w' G x cs → r.ty.cells w' F' x cs) → all2 (CvRel w' F' hd') (resCvs d l y) r := by
        intro l
        induction l with
        | nil => intro y r _ hr _; cases hr; trivial
        | cons p l ih =>
          intro y r h0 hr hconv
          cases p with
          | one t =>
            simp only [resOwns, RPat.owns, Nat.zero_add] at h0
            obtain ⟨v, r, rfl, hc, hr⟩ := hr
            exact ⟨encOne_ok t y.1 v (hconv _ (.head _) y.1 [v] hc), ih y.2 r h0 hr fun r hr => hconv r (.tail _ hr)⟩
          | agg t =>
            simp only [resOwns, RPat.owns, Nat.zero_add] at h0
            obtain ⟨cs, r, rfl, hc, hr⟩ := hr
            exact ⟨⟨cs, rfl, enc_ok t y.1 _ (hconv _ (.head _) y.1 _ hc)⟩, ih y.2 r h0 hr fun r hr => hconv r (.tail _ hr)⟩
          | own e t => simp only [resOwns, RPat.owns] at h0; omega
      exact rest l y.2 r h0 hr fun r hr => hconv r (.tail _ hr)

theorem resCvs_none {B : Nat} {G F' : Nat → Prop} {hd' : Nat → Value} (d : Nat) : ∀ (l : List RPat) (y : resDen l) (r : List Value), resOwns l = 0 → resRel B w' G l y r →
    (∀ r ∈ l, ∀ (x : r.ty.den) cs, r.ty.cells w' G x cs → r.ty.cells w' F' x cs) → all2 (CvRel w' F' hd') (resCvs d l y) r := by
  intro l
  induction l with
  | nil => intro y r _ hr _; cases hr; trivial
  | cons p l ih =>
    intro y r h0 hr hconv
    cases p with
    | one t =>
      simp only [resOwns, RPat.owns, Nat.zero_add] at h0
      obtain ⟨v, r, rfl, hc, hr⟩ := hr
      exact ⟨encOne_ok t y.1 v (hconv _ (.head _) y.1 [v] hc), ih y.2 r h0 hr fun r hr => hconv r (.tail _ hr)⟩
    | agg t =>
      simp only [resOwns, RPat.owns, Nat.zero_add] at h0
      obtain ⟨cs, r, rfl, hc, hr⟩ := hr
      exact ⟨⟨cs, rfl, enc_ok t y.1 _ (hconv _ (.head _) y.1 _ hc)⟩, ih y.2 r h0 hr fun r hr => hconv r (.tail _ hr)⟩
    | own e t => simp only [resOwns, RPat.owns] at h0; omega

theorem on_below (h : RowKit.Below w.heap.size w w') : On w w' := ⟨h.os, h.tape, h.output, h.size⟩

/-- The world goes on, and nothing that was there has turned. -/
theorem Inv.below (I : Inv C hd S tmps w) (h : RowKit.Below w.heap.size w w') : Inv C hd S tmps w' := by
  have k : Keeps w w' (C.F hd S) (C.F hd S) := ⟨fun b _ hb => h.block b hb, fun _ _ h => h⟩
  have kc : ∀ c v, CvRel w (C.F hd S) hd c v → CvRel w' (C.F hd S) hd c v := by
    intro c v h
    cases c with
    | one v => exact SVRel.keep k (fun _ _ => rfl) h
    | agg l => obtain ⟨cs, hx, hl⟩ := h; exact ⟨cs, hx, all2.mono (fun a x hx => SVRel.keep k (fun _ _ => rfl) hx) hl⟩
  refine ⟨all2.mono (fun s v h => ?_) I.slots, fun p hp => ObRel.keep k rfl (fun b hb => h.block b ((I.objs p hp).lt b hb)) (I.objs p hp), I.nodup, I.apart, I.place, I.still_of 0 (on_below h) (fun b hb _ => h.block b hb)⟩
  cases s with
  | val c => exact kc c v h
  | tup l => obtain ⟨vs, hx, hl⟩ := h; exact ⟨vs, hx, all2.mono kc hl⟩

theorem owns_base {B B' : Nat} {e : TypeId} {n k : Nat} {v : Value} {xs : List Value} (h : w.ownsRow B e n v k xs) (hB : ∀ b, blk v = some b → B' ≤ b) : w.ownsRow B' e n v k xs := by
  refine ⟨h.1, ?_⟩
  rcases h.2 with hn | ⟨g, cap, cur, rfl, _, rest⟩
  · exact .inl hn
  · exact .inr ⟨g, cap, cur, rfl, hB g rfl, rest⟩

/-- Behind a call. -/
theorem results_ok (I : Inv C hd S tmps w) {res : List RPat} {y : resDen res} {vs : List Value} {G : Nat → Prop} (d : Nat) (hb : RowKit.Below w.heap.size w w') (hr : resRel w.heap.size w' G res y vs) (hn : resOwns res ≤ 1)
    (hconv : ∀ F' : Nat → Prop, (∀ b, F' b → C.F hd S b ∨ G b) → ∀ r ∈ res, ∀ (x : r.ty.den) cs, r.ty.cells w' G x cs → r.ty.cells w' F' x cs) :
    ∃ hd', Inv C hd' (apps (resEf d res y) S) tmps w' ∧ SSRel w' (C.F hd' (apps (resEf d res y) S)) hd' (packCvs (resCvs d res y)) (pack vs) := by
  have packs : ∀ (F' : Nat → Prop) (hd' : Nat → Value), all2 (CvRel w' F' hd') (resCvs d res y) vs → SSRel w' F' hd' (packCvs (resCvs d res y)) (pack vs) := by
    intro F' hd' h
    generalize resCvs d res y = cs at h
    match cs, vs, h with
    | [c], [v], h => exact h.1
    | [], [], _ => exact ⟨_, rfl, trivial⟩
    | c :: c2 :: cs, v :: v2 :: vs, h => exact ⟨_, rfl, by simpa using h⟩
    | [_], _ :: _ :: _, h => exact h.2.elim
    | _ :: _ :: _, [_], h => exact h.2.elim
    | [], _ :: _, h => exact h.elim
    | _ :: _, [], h => exact h.elim
  rcases Nat.eq_zero_or_pos (resOwns res) with h0 | h1
  · rw [resEf_none d res y h0]
    exact ⟨hd, I.below hb, packs _ _ (resCvs_none d res y vs h0 hr (hconv _ fun b h => .inl h))⟩
  · obtain ⟨e, t, l, v, xs, h2, h3, h4, h5, h6, h7⟩ := resEf_one d res y vs (by omega) hr
    rw [h2]
    show ∃ hd', Inv C hd' (S.renew d (.arr e t l)) tmps w' ∧ SSRel w' (C.F hd' (S.renew d (.arr e t l))) hd' _ _
    have hv : ∀ b, blk v = some b → w.heap.size ≤ b := by
      intro b hb
      rcases h3.2 with ⟨rfl, _⟩ | ⟨g, cap, cur, rfl, hg, _⟩
      · simp [blk] at hb
      · simp [blk] at hb; omega
    have hsub : ∀ F'', (∀ b, F'' b → C.F hd S b ∨ G b) → rows (t.cells w' F'') l xs := fun F'' h => rows.mono (fun x cs hx => hconv F'' h _ h6 x cs hx) h4
    have hFs : ∀ b, C.F (upd hd d v) (S.renew d (.arr e t l)) b → C.F hd S b ∨ G b := by
      intro b h
      rcases h with h | ⟨p, hp, hpb⟩
      · exact .inl (.inl h)
      · simp only [St.renew, List.mem_cons] at hp
        rcases hp with rfl | hp
        · simp only [upd_same] at hpb; exact .inr (h5 b hpb)
        · obtain ⟨hne, o', ho', _⟩ := mem_killObjs hp
          rw [upd_ne v hne] at hpb
          exact .inl (.inr ⟨_, ho', hpb⟩)
    have hrows := hsub _ hFs
    obtain ⟨I', _⟩ : Inv C (upd hd d v) (S.renew d (.arr e t l)) tmps w' ∧ True := by
      have k : Keeps w w' (C.F hd S) (C.F (upd hd d v) (S.renew d (.arr e t l))) := by
        refine ⟨fun b _ hlt => hb.block b hlt, ?_⟩
        intro b hlt h
        rcases h with h | ⟨p, hp, hpb⟩
        · exact .inl h
        · simp only [St.renew, List.mem_cons] at hp
          rcases hp with rfl | hp
          · simp only [upd_same] at hpb
            have := hv b hpb
            omega
          · obtain ⟨hne, o', ho', _⟩ := mem_killObjs hp
            rw [upd_ne v hne] at hpb
            exact .inr ⟨_, ho', hpb⟩
      -- as 'Inv.renew', but the rows are known for this one set
      have hh : ∀ j, j ≠ d → upd hd d v j = hd j := fun j hj => upd_ne v hj
      refine ⟨⟨all2_killSlots k d hh I.slots, ?_, ?_, ?_, ?_, I.still_of 0 (on_below hb) (fun b hlt _ => hb.block b hlt)⟩, trivial⟩
      · intro p hp
        simp only [St.renew, List.mem_cons] at hp
        rcases hp with rfl | hp
        · simp only [upd_same]
          exact ⟨xs, owns_base h3 (fun _ _ => Nat.zero_le _), hrows⟩
        · obtain ⟨hne, o', ho', he⟩ := mem_killObjs hp
          rw [he, hh _ hne]
          exact ObRel.kill k d hh (fun b hbk => hb.block b ((I.objs _ ho').lt b hbk)) (I.objs _ ho')
      · simp only [St.renew, List.map_cons, List.nodup_cons]
        refine ⟨fun h => ?_, List.Sublist.nodup (ids_killObjs d S.objs) I.nodup⟩
        obtain ⟨p, hp, he⟩ := List.mem_map.1 h
        exact (mem_killObjs hp).1 he
      · intro p hp q hq hne b hpb hqb
        simp only [St.renew, List.mem_cons] at hp hq
        have one : ∀ q ∈ killObjs d S.objs, blk (upd hd d v q.1) = some b → blk v = some b → False := by
          intro q hq hqb hvb
          obtain ⟨hne, o', ho', _⟩ := mem_killObjs hq
          rw [hh _ hne] at hqb
          have := (I.objs _ ho').lt b hqb
          have := hv b hvb
          omega
        rcases hp with rfl | hp <;> rcases hq with rfl | hq
        · exact hne rfl
        · simp only [upd_same] at hpb; exact one q hq hqb hpb
        · simp only [upd_same] at hqb; exact one p hp hpb hqb
        · obtain ⟨hp1, o1, ho1, _⟩ := mem_killObjs hp
          obtain ⟨hq1, o2, ho2, _⟩ := mem_killObjs hq
          rw [hh _ hp1] at hpb
          rw [hh _ hq1] at hqb
          exact I.apart _ ho1 _ ho2 hne b hpb hqb
      · intro p hp b hpb
        simp only [St.renew, List.mem_cons] at hp
        rcases hp with rfl | hp
        · simp only [upd_same] at hpb
          exact .inl (Nat.le_trans I.still.size (hv b hpb))
        · obtain ⟨hp1, o1, ho1, _⟩ := mem_killObjs hp
          rw [hh _ hp1] at hpb
          exact I.place _ ho1 b hpb
    exact ⟨_, I', packs _ _ (h7 _ _ (upd_same _ _ _) (hconv _ hFs))⟩

theorem resFlat_mem : ∀ {res : List RPat}, resFlat res = true → ∀ r ∈ res, r.ty.flat = true
  | [], _, r, hr => by simp at hr
  | p :: l, h, r, hr => by
    simp only [resFlat, Bool.and_eq_true] at h
    rcases List.mem_cons.1 hr with rfl | hr
    · cases r <;> exact h.1
    · exact resFlat_mem h.2 r hr

theorem dropEf_ok : ∀ (ids : List Nat) {S : St}, Inv C hd S tmps w → Inv C hd (apps (dropEf ids) S) tmps w ∧ (∀ p ∈ (apps (dropEf ids) S).objs, p.1 ∉ ids ∧ ∃ o, (p.1, o) ∈ S.objs)
  | [], S, I => ⟨I, fun p hp => ⟨by simp, p.2, hp⟩⟩
  | i :: ids, S, I => by
    obtain ⟨I', h'⟩ := dropEf_ok ids (I.drop i).1
    refine ⟨I', fun p hp => ?_⟩
    obtain ⟨h1, o, ho⟩ := h' p hp
    obtain ⟨h2, o', ho', _⟩ := mem_killObjs ho
    exact ⟨by simp only [List.mem_cons, not_or]; exact ⟨h2, h1⟩, o', ho'⟩

theorem conSum_ok {R : Type} {f : FuncId} {args : List Pat} {res : List RPat} {Fn : slotsDen args → Option (resDen res)} (h : Con C.P f args res Fn) : SumOk C f (conSum (R := R) args res Fn) := by
  intro hd S lk tmps w d as vals κ r I hsub hargs hk
  unfold conSum at hk
  split at hk
  · rename_i hown hflat
    have hown := Nat.le_of_ble_eq_true hown
    split at hk
    · rename_i x hx
      rw [Option.bind_eq_some_iff] at hk
      obtain ⟨y, hy, hk⟩ := hk
      have L : Lets C hd S w [] (fun _ => False) := ⟨fun _ _ h => h.elim, fun _ _ _ _ _ _ h => h.elim⟩
      refine (h w (fun _ => False) hd x y vals (fun _ h => h.elim) (decSlots_ok I hsub L args as x vals hx hargs) hy).mono ?_
      rintro e w' ⟨vs, G, rfl, hG, hr, hb⟩
      obtain ⟨hd', I', hs⟩ := results_ok I d hb hr hown (fun F' _ r hr x cs hc => r.ty.cells_flat x cs (resFlat_mem hflat r hr) hc)
      exact ⟨_, hd', _, _, rfl, hk, I', hs⟩
    · cases hk
  · rename_i hown hflat
    have hown := Nat.le_of_ble_eq_true hown
    split at hk
    · rename_i x hdj hx
      rw [Option.bind_eq_some_iff] at hk
      obtain ⟨y, hy, hk⟩ := hk
      obtain ⟨I1, hsub1⟩ := dropEf_ok (ssOwns as) I
      generalize hS1 : apps (dropEf (ssOwns as)) S = S1 at I1 hsub1
      have hlt : ∀ b, C.F hd S1 b → b < w.heap.size := by
        rintro b (h | ⟨p, hp, hpb⟩)
        · exact Nat.lt_of_lt_of_le (C.small b h).1 I.still.size
        · exact (I1.objs p hp).lt b hpb
      have L : Lets C hd S w (S1.objs.map (·.1)) (C.F hd S1) := by
        constructor
        · rintro b _ (h | ⟨p, hp, hpb⟩)
          · exact .inl h
          · obtain ⟨_, o, ho⟩ := hsub1 p hp
            exact .inr ⟨_, ho, hpb⟩
        · rintro i o hio hni b hb (h | ⟨p, hp, hpb⟩)
          · have := C.small b h
            rcases I.place _ hio b hb with h' | h'
            · omega
            · exact this.2 h'
          · obtain ⟨_, o', ho'⟩ := hsub1 p hp
            refine I.apart (p.1, o') ho' (i, o) hio (fun e => hni ?_) b hpb hb
            have e : p.1 = i := e
            rw [← e]
            exact List.mem_map.2 ⟨p, hp, rfl⟩
      have hx' : decSlots lk (S1.objs.map (·.1)) args as = some x := by
        refine decSlots_keep args as x hx fun i hi hin => ?_
        obtain ⟨p, hp, hpi⟩ := List.mem_map.1 hin
        have := List.all_eq_true.1 hdj i hi
        exact (hsub1 p hp).1 (by rw [hpi]; exact memN_mem this)
      refine (h w (C.F hd S1) hd x y vals hlt (decSlots_ok I hsub L args as x vals hx' hargs) hy).mono ?_
      rintro e w' ⟨vs, G, rfl, hG, hr, hb⟩
      obtain ⟨hd', I', hs⟩ := results_ok I1 d hb hr hown (fun F' hF r _ x cs hc => by
        refine r.ty.cells_keep (w := w') (w' := w') (F := G) (F' := F') ⟨fun _ _ _ => rfl, fun b _ hb => ?_⟩ x cs hc
        rcases hF b hb with h | h
        · exact hG b h
        · exact h)
      exact ⟨_, hd', _, _, rfl, hk, by rw [apps_append, hS1]; exact I', by rw [apps_append, hS1]; exact hs⟩
    · cases hk
  · cases hk

/- How a contract is proved. -/

/-- One result. -/
def resVal (tmps : Array Value) : ResultVar → Sem Value
  | .tmp t => Pure.pure (tmps.getD t undef)
  | .cell a t => do loadVar t (← asAddr (tmps.getD a undef))

theorem resVals_ok (I : Inv C hd S tmps w) {R : Type} : ∀ (rv : List ResultVar) (κ : List SS → Option R) (r : R), resVals C.P S rv κ = some r →
    ∃ ss vs, (rv.mapM (resVal tmps)).run C.P w = Result.ok vs w ∧ all2 (SSRel w (C.F hd S) hd) ss vs ∧ κ ss = some r
  | [], κ, r, h => ⟨[], [], by simp, trivial, h⟩
  | .tmp t :: rv, κ, r, h => by
    obtain ⟨ss, vs, hrun, hss, hk⟩ := resVals_ok I rv _ r h
    have ht := I.rd (.tmp t) []
    exact ⟨_ :: ss, _ :: vs, by simp only [List.mapM_cons, Sem.run_bind, resVal, Sem.run_pure, Result.andThen_ok, hrun]; rfl, ⟨ht, hss⟩, hk⟩
  | .cell a t :: rv, κ, r, h => by
    simp only [resVals] at h
    have ha := I.rd (.tmp a) []
    have ha : SSRel w (C.F hd S) hd (nth S.slots a) (tmps.getD a undef) := ha
    obtain ⟨v, s, hv, hk, hs⟩ := load_val I (Sub.all S) ha h
    obtain ⟨ss, vs, hrun, hss, hk⟩ := resVals_ok I rv _ r hk
    have h1 : (resVal tmps (.cell a t)).run C.P w = .ok v w := by
      simp only [resVal]
      generalize tmps.getD a undef = p at *
      cases p with
      | pointer q =>
        cases q with
        | some q => simpa [Instr.loadAt, Instr.sureAddr, asAddr] using hv
        | none => simp [Instr.loadAt, Instr.sureAddr] at hv
      | _ => simp [Instr.loadAt, Instr.sureAddr] at hv
    exact ⟨_ :: ss, _ :: vs, by simp only [List.mapM_cons, Sem.run_bind, h1, Sem.run_pure, Result.andThen_ok, hrun], ⟨hs, hss⟩, hk⟩

theorem run_results {P : Program} {fn : Func} {vs : List Value} (h : (fn.results.toList.mapM (resVal tmps)).run P w = Result.ok vs w) : (results fn tmps).run P w = .ok (pack vs) w := by
  have e : (fn.results.mapM (resVal tmps)).run P w = .ok vs.toArray w := by
    rw [← Array.toArray_toList (xs := fn.results), List.mapM_toArray]
    simp only [Sem.run_map, h, Result.andThen_ok]
  have e2 : results fn tmps = (do let vs ← fn.results.mapM (resVal tmps); Pure.pure (if h : vs.size = 1 then vs[0] else .tuple vs) : Sem Value) := by
    unfold results
    congr 1
  rw [e2]
  simp only [Sem.run_bind, e, Result.andThen_ok, Sem.run_pure]
  congr 1
  match vs with
  | [] => rfl
  | [v] => rfl
  | v :: v2 :: vs => simp [pack]

theorem ownOf_ok (I : Inv C hd S tmps w) (hW : ∀ b, ¬ C.W b) {keep : List Nat} {G : Nat → Prop} (L : Lets C hd S w keep G) {e : TypeId} {t : Ty} {v : SV} {l : List t.den} {x : Value} (h : ownOf S e t v = some l) (hx : SVRel w (C.F hd S) hd v x)
    (hkeep : ∀ i, v = .own i → i ∈ keep) (hG : ∀ i o, i ∈ keep → (i, o) ∈ S.objs → ∀ b, blk (hd i) = some b → G b) :
    ∃ xs, w.ownsRow C.w0.heap.size e t.nc x l.length xs ∧ rows (t.cells w G) l xs ∧ ∀ b, blk x = some b → G b := by
  cases v with
  | own i =>
    simp only [ownOf] at h
    split at h
    · rename_i e' u m hlk
      obtain ⟨he, h1⟩ := bif_some h
      have he := Nat.eq_of_beq_eq_true he
      subst he
      obtain ⟨rfl, hc⟩ := castL_eq h1
      simp only at hc
      subst hc
      obtain ⟨hx, _⟩ := hx
      subst hx
      have hm := look_mem hlk
      obtain ⟨xs, ho, hr⟩ := I.objs _ hm
      refine ⟨xs, owns_base ho fun b hb => ?_, rows.mono (u.cells_keep L.keeps) hr, hG i _ (hkeep i rfl) hm⟩
      rcases I.place _ hm b hb with h | h
      · exact h
      · exact absurd h (hW b)
    · cases h
  | «at» v =>
    cases v with
    | slice p n c =>
      cases p with
      | some p => simp [ownOf] at h
      | none =>
        cases n with
        | succ n => simp [ownOf] at h
        | zero =>
          cases c with
          | succ c => simp [ownOf] at h
          | zero =>
            simp only [ownOf, Option.some.injEq] at h
            cases hx
            subst h
            exact ⟨[], World.ownsRow_nil _ _ _ _, rfl, by simp [blk]⟩
    | _ => simp [ownOf] at h
  | fz t l => simp [ownOf] at h
  | vw i n o l => simp [ownOf] at h
  | ptr i o => simp [ownOf] at h
  | ep i n a j => simp [ownOf] at h
  | bs i off n t => simp [ownOf] at h
  | es i n a j m t => simp [ownOf] at h
  | fp t d j => simp [ownOf] at h
  | dead => simp [ownOf] at h

theorem resDec_ok (I : Inv C hd S tmps w) (hW : ∀ b, ¬ C.W b) {keep : List Nat} {G : Nat → Prop} (L : Lets C hd S w keep G) (hG : ∀ i o, i ∈ keep → (i, o) ∈ S.objs → ∀ b, blk (hd i) = some b → G b) :
    ∀ (rs : List RPat) (l : List SS) (y : resDen rs) (vs : List Value), resDec S keep rs l = some y → (∀ i ∈ ownIds rs l, i ∈ keep) → all2 (SSRel w (C.F hd S) hd) l vs → resRel C.w0.heap.size w G rs y vs := by
  intro rs
  induction rs with
  | nil =>
    intro l y vs h _ hv
    cases l with
    | nil => cases vs with
      | nil => rfl
      | cons _ _ => exact hv.elim
    | cons _ _ => simp [resDec] at h
  | cons p rs ih =>
    intro l y vs h hk hv
    cases l with
    | nil => cases p <;> simp [resDec] at h
    | cons s l =>
      cases vs with
      | nil => exact hv.elim
      | cons v vs =>
        obtain ⟨hs, hl⟩ := hv
        cases p with
        | one t =>
          have hk' : ∀ i ∈ ownIds rs l, i ∈ keep := fun i hi => hk i (by simpa [ownIds] using hi)
          cases s with
          | tup _ => simp [resDec] at h
          | val c =>
            cases c with
            | agg _ => simp [resDec] at h
            | one sv =>
              simp only [resDec] at h
              split at h
              · rename_i a b ha hb
                simp only [Option.some.injEq] at h
                subst h
                exact ⟨v, vs, rfl, decSAll_ok I (Sub.all S) L ha (vs := [v]) ⟨hs, trivial⟩, ih l b vs hb hk' hl⟩
              · cases h
        | agg t =>
          have hk' : ∀ i ∈ ownIds rs l, i ∈ keep := fun i hi => hk i (by simpa [ownIds] using hi)
          cases s with
          | tup _ => simp [resDec] at h
          | val c =>
            cases c with
            | one _ => simp [resDec] at h
            | agg cs =>
              simp only [resDec] at h
              split at h
              · rename_i a b ha hb
                simp only [Option.some.injEq] at h
                subst h
                obtain ⟨vs', rfl, hvs'⟩ := hs
                exact ⟨vs', vs, rfl, decSAll_ok I (Sub.all S) L ha hvs', ih l b vs hb hk' hl⟩
              · cases h
        | own e t =>
          cases s with
          | tup _ => simp [resDec] at h
          | val c =>
            cases c with
            | agg _ => simp [resDec] at h
            | one sv =>
              simp only [resDec] at h
              split at h
              · rename_i a b ha hb
                simp only [Option.some.injEq] at h
                subst h
                have hk' : ∀ i ∈ ownIds rs l, i ∈ keep := by
                  intro i hi
                  refine hk i ?_
                  cases sv <;> simp [ownIds, hi]
                obtain ⟨xs, h1, h2, h3⟩ := ownOf_ok I hW L ha hs (fun i hi => hk i (by subst hi; simp [ownIds])) hG
                exact ⟨v, vs, xs, rfl, h1, h2, h3, ih l b vs hb hk' hl⟩
              · cases h

theorem all2_replicate {Rr : SS → Value → Prop} (h : ∀ v, Rr .dead v) (v : Value) : ∀ n, all2 Rr (List.replicate n .dead) (List.replicate n v)
  | 0 => trivial
  | n + 1 => ⟨h v, all2_replicate h v n⟩

theorem con_of_sh {P : Program} {f : FuncId} {fn : Func} {body : Code} {args : List Pat} {res : List RPat} (hf : P.funcs[f]? = some fn) (hb : fn.body = some body) {E : Sums (resDen res)} {L : Pieces (resDen res)}
    (hE : ∀ C : Ctx, C.P = P → ∀ f g, E f = some g → SumOk C f g) (hQ : ∀ f g, E f = some g → DetSum g) (hL : ∀ C : Ctx, C.P = P → ∀ p g, L p = some g → PieceOk C (codeAt body p) g) {Fn : slotsDen args → Option (resDen res)}
    (hs : ∀ x, Fn x = sh P E L body [] ⟨pad fn.ntmps (encSlots args x), []⟩ (fin P fn.results.toList res)) : Con P f args res Fn := by
  intro w F hd x y vals hF hargs hy
  rw [hs] at hy
  let C : Ctx := { P, w0 := w, E := F, W := fun _ => False, small := fun b h => ⟨hF b h, fun h => h⟩ }
  have hFe : C.F hd ⟨pad fn.ntmps (encSlots args x), []⟩ = F := funext fun b => propext ⟨fun h => h.elim id fun ⟨p, hp, _⟩ => by simp at hp, .inl⟩
  have I : Inv C hd ⟨pad fn.ntmps (encSlots args x), []⟩ (vals.toArray ++ Array.replicate (fn.ntmps - vals.toArray.size) undef) w := by
    refine ⟨?_, by simp, by simp, by simp, by simp, ⟨rfl, rfl, rfl, Nat.le_refl _, fun _ _ _ => rfl⟩⟩
    rw [hFe]
    have hlen := hargs.len
    simp only [Array.toList_append, Array.toList_replicate, pad, List.size_toArray, hlen]
    exact hargs.app (all2_replicate (SSRel.dead w F hd) undef _)
  refine calls_of_wp hf hb (wp_mono (sh_wp (hE C rfl) hQ body (hL C rfl) (ds := []) body rfl I hy) ?_)
  rintro e ⟨tmps', ds'⟩ w' ⟨ex, hd', S', rfl, hk, hds, I'⟩
  simp only at hds
  subst hds
  have done : resVals P S' fn.results.toList (fun l => resDec S' (ownIds res l) res l) = some y →
      ∃ v, (results fn tmps').run P w' = .ok v w' ∧ ∃ vs G, Ending.returned v = .returned (pack vs) ∧ (∀ b, F b → G b) ∧ resRel w.heap.size w' G res y vs ∧ RowKit.Below w.heap.size w w' := by
    intro hk
    obtain ⟨ss, vs, hrun, hss, hk⟩ := resVals_ok I' _ _ y hk
    have L' : Lets C hd' S' w' (ownIds res ss) (fun b => F b ∨ ∃ i o, i ∈ ownIds res ss ∧ (i, o) ∈ S'.objs ∧ blk (hd' i) = some b) := by
      constructor
      · rintro b _ (h | ⟨i, o, _, ho, hb⟩)
        · exact .inl h
        · exact .inr ⟨_, ho, hb⟩
      · rintro i o hio hni b hb (h | ⟨j, o', hj, ho, hb'⟩)
        · rcases I'.place _ hio b hb with h' | h'
          · have := hF b h
            have h' : w.heap.size ≤ b := h'
            omega
          · exact h'
        · exact I'.apart (j, o') ho (i, o) hio (fun e => hni (by have e : j = i := e; rw [← e]; exact hj)) b hb' hb
    refine ⟨_, run_results hrun, vs, _, rfl, fun b h => .inl h, resDec_ok I' (fun _ h => h) L' (fun i o hi ho b hb => .inr ⟨i, o, hi, ho, hb⟩) res ss y vs hk (fun _ h => h) hss, ?_⟩
    exact ⟨I'.still.os, I'.still.tape, I'.still.output, I'.still.size, fun b hb => I'.still.block b hb (fun h => h)⟩
  cases ex with
  | normal => exact ⟨rfl, done hk⟩
  | exit i => cases hk
  | ret => exact ⟨rfl, done hk⟩

end

/- Tables of what is called, and of the pieces of a body. -/

structure Entry where
  f : FuncId
  args : List Pat
  res : List RPat
  Fn : slotsDen args → Option (resDen res)

def envOf {R : Type} : List Entry → Sums R
  | [], _ => none
  | e :: l, f => bif Nat.beq e.f f then some (conSum e.args e.res e.Fn) else envOf l f

def EnvOk (P : Program) : List Entry → Prop
  | [] => True
  | e :: l => Con P e.f e.args e.res e.Fn ∧ EnvOk P l

theorem envOf_ok {P : Program} {R : Type} : ∀ {l : List Entry}, EnvOk P l → ∀ C : Ctx, C.P = P → ∀ f (g : Nat → List SS → Lk → (SS → List Ef → Option R) → Option R), envOf l f = some g → SumOk C f g
  | [], _, _, _, _, _, h => by cases h
  | e :: l, hl, C, hC, f, g, h => by
    simp only [envOf] at h
    cases hb : Nat.beq e.f f with
    | true =>
      simp only [hb, cond_true, Option.some.injEq] at h
      subst h
      have := Nat.eq_of_beq_eq_true hb
      subst this
      subst hC
      exact conSum_ok hl.1
    | false => simp only [hb, cond_false] at h; exact envOf_ok hl.2 C hC f g h

theorem conSum_det {R : Type} {args : List Pat} {res : List RPat} {Fn : slotsDen args → Option (resDen res)} : DetSum (conSum (R := R) args res Fn) := by
  intro d as lk κ r h
  unfold conSum at h
  split at h
  · rename_i h1 h2
    split at h
    · rename_i x hx
      rw [Option.bind_eq_some_iff] at h
      obtain ⟨y, hy, hk⟩ := h
      exact ⟨_, _, hk, fun κ' r' hk' => by unfold conSum; simp only [h1, h2, hx, hy, Option.bind_some]; exact hk'⟩
    · cases h
  · rename_i h1 h2
    split at h
    · rename_i x hd hx
      rw [Option.bind_eq_some_iff] at h
      obtain ⟨y, hy, hk⟩ := h
      exact ⟨_, _, hk, fun κ' r' hk' => by unfold conSum; simp only [h1, h2, hd, hx, hy, Option.bind_some]; exact hk'⟩
    · cases h
  · cases h

theorem envOf_det {R : Type} : ∀ (l : List Entry) (f : FuncId) (g : Nat → List SS → Lk → (SS → List Ef → Option R) → Option R), envOf l f = some g → DetSum g
  | [], _, _, h => by cases h
  | e :: l, f, g, h => by
    simp only [envOf] at h
    cases hb : Nat.beq e.f f with
    | true =>
      simp only [hb, cond_true, Option.some.injEq] at h
      subst h
      exact conSum_det
    | false => simp only [hb, cond_false] at h; exact envOf_det l f g h

structure PEntry where
  at_ : List Nat
  s : Spec
  l : s.T.den → Option (xDen s.X)

def samePath : List Nat → List Nat → Bool
  | [], [] => true
  | i :: p, j :: q => Nat.beq i j && samePath p q
  | _, _ => false

theorem samePath_ok : ∀ {p q : List Nat}, samePath p q = true → p = q
  | [], [], _ => rfl
  | i :: p, j :: q, h => by
    simp only [samePath, Bool.and_eq_true] at h
    rw [Nat.eq_of_beq_eq_true h.1, samePath_ok h.2]
  | [], _ :: _, h => by cases h
  | _ :: _, [], h => by cases h

def piecesOf {R : Type} : List PEntry → Pieces R
  | [], _ => none
  | e :: l, p => bif samePath e.at_ p then some (piece e.s e.l) else piecesOf l p

def PiecesOk (P : Program) (root : Code) : List PEntry → Prop
  | [] => True
  | e :: l => (∀ C : Ctx, C.P = P → ∀ {R : Type}, PieceOk C (codeAt root e.at_) (piece (R := R) e.s e.l)) ∧ PiecesOk P root l

theorem piecesOf_ok {P : Program} {root : Code} {R : Type} : ∀ {l : List PEntry}, PiecesOk P root l → ∀ C : Ctx, C.P = P → ∀ p (g : St → (SExit → St → Option R) → Option R), piecesOf l p = some g → PieceOk C (codeAt root p) g
  | [], _, _, _, _, _, h => by cases h
  | e :: l, hl, C, hC, p, g, h => by
    simp only [piecesOf] at h
    cases hb : samePath e.at_ p with
    | true =>
      simp only [hb, cond_true, Option.some.injEq] at h
      subst h
      rw [← samePath_ok hb]
      exact hl.1 C hC
    | false => simp only [hb, cond_false] at h; exact piecesOf_ok hl.2 C hC p g h

/-- A loop at a place of a body, by its own body's run. -/
theorem loop_entry {P : Program} {root : Code} {at_ : List Nat} {s : Spec} {body : Code} (hcode : codeAt root at_ = .loop body) {env : List Entry} (hE : EnvOk P env) {ps : Nat → List PEntry} (hL : ∀ k, PiecesOk P body (ps k))
    {l : Nat → s.T.den → Option (xDen s.X)} (h0 : ∀ x, l 0 x = none) (K : Nat) (hs : ∀ k x, l (k + 1) x = sh P (envOf env) (piecesOf (ps K)) body [] (s.T.enc x) (again s (l k))) :
    ∀ (k : Nat) (C : Ctx), C.P = P → ∀ {R : Type}, PieceOk C (codeAt root at_) (piece (R := R) s (l k)) := by
  intro k C hC R
  subst hC
  exact loop_ok (envOf_ok hE C rfl) (envOf_det env) hcode (piecesOf_ok (hL K) C rfl) h0 hs k

theorem once_entry {P : Program} {root : Code} {at_ : List Nat} {s : Spec} {code : Code} (hcode : codeAt root at_ = code) {env : List Entry} (hE : EnvOk P env) {ps : List PEntry} (hL : PiecesOk P code ps)
    {l : s.T.den → Option (xDen s.X)} (hs : ∀ x, l x = sh P (envOf env) (piecesOf ps) code [] (s.T.enc x) (xDec s.X)) :
    ∀ (C : Ctx), C.P = P → ∀ {R : Type}, PieceOk C (codeAt root at_) (piece (R := R) s l) := by
  intro C hC R
  subst hC
  rw [hcode]
  exact once_ok (envOf_ok hE C rfl) (envOf_det env) (piecesOf_ok hL C rfl) hs

theorem con_entry {P : Program} {f : FuncId} {fn : Func} {body : Code} {args : List Pat} {res : List RPat} (hf : P.funcs[f]? = some fn) (hb : fn.body = some body) {env : List Entry} (hE : EnvOk P env) {ps : List PEntry} (hL : PiecesOk P body ps)
    {Fn : slotsDen args → Option (resDen res)} (hs : ∀ x, Fn x = sh P (envOf env) (piecesOf ps) body [] ⟨pad fn.ntmps (encSlots args x), []⟩ (fin P fn.results.toList res)) : Con P f args res Fn :=
  con_of_sh hf hb (envOf_ok hE) (envOf_det env) (piecesOf_ok hL) hs

end Go.Sh
