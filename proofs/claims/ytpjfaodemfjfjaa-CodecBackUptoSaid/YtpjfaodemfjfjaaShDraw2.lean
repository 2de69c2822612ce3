/-
  A region that draws its order, II: every order. No project text.
-/
import Derived.Test.YtpjfaodemfjfjaaShDraw
namespace Go.Sh

section
variable {R : Type} {P : Program} {E : Sums R} {Qf : FuncId → Bool} {all : Array Oper}

/-- One operation, under its guard. -/
def step1 (P : Program) (E : Sums R) (all : Array Oper) (o : Oper) (S : St) (κ : St → Option R) : Option R :=
  match o.guard with
  | none => opv P E S (o.dst.getD 0) o.op fun v S => κ (setDst o v S)
  | some (j, want) => match (all[j]?).bind (·.dst) with
    | none => none
    | some t => match nth S.slots t with
      | .val (.one (.at (.bool b))) =>
        bif b then
          (bif true == want then opv P E { S with slots := put S.slots t (.at (.bool true)) } (o.dst.getD 0) o.op fun v S => κ (setDst o v S) else κ (setDst o .dead { S with slots := put S.slots t (.at (.bool true)) }))
        else
          (bif false == want then opv P E { S with slots := put S.slots t (.at (.bool false)) } (o.dst.getD 0) o.op fun v S => κ (setDst o v S) else κ (setDst o .dead { S with slots := put S.slots t (.at (.bool false)) }))
      | _ => none

theorem ops_cons (o : Oper) (l : List Oper) (S : St) (κ : St → Option R) : ops P E all (o :: l) S κ = step1 P E all o S fun S => ops P E all l S κ := rfl

theorem put_nth : ∀ (l : List SS) (t : Nat), put l t (nth l t) = l
  | [], _ => rfl
  | _ :: _, 0 => rfl
  | x :: l, t + 1 => by simp only [put, nth, put_nth l t]

theorem nth_put_ne : ∀ (l : List SS) (s : SS) {t u : Nat}, t ≠ u → nth (put l t s) u = nth l u
  | [], _, _, _, _ => rfl
  | _ :: _, _, 0, 0, h => absurd rfl h
  | _ :: _, _, 0, _ + 1, _ => rfl
  | _ :: _, _, _ + 1, 0, _ => rfl
  | _ :: l, s, t + 1, u + 1, h => nth_put_ne l s (by omega)

theorem put_comm : ∀ (l : List SS) (a b : SS) {t u : Nat}, t ≠ u → put (put l t a) u b = put (put l u b) t a
  | [], _, _, _, _, _ => rfl
  | _ :: _, _, _, 0, 0, h => absurd rfl h
  | _ :: _, _, _, 0, _ + 1, _ => rfl
  | _ :: _, _, _, _ + 1, 0, _ => rfl
  | x :: l, a, b, t + 1, u + 1, h => by simp only [put, put_comm l a b (show t ≠ u by omega)]

def Agree (all : Array Oper) (o : Oper) (S S1 : St) : Prop := S1.objs = S.objs ∧ ∀ t ∈ o.looksAt all, nth S1.slots t = nth S.slots t

theorem Agree.rd {o : Oper} {S S1 : St} (h : Agree all o S S1) : ∀ x ∈ o.op.operands, rd S1 x = rd S x := by
  intro x hx
  cases x with
  | tmp t => exact h.2 t (List.mem_append_left _ (List.mem_filterMap.2 ⟨.tmp t, by simpa using hx, rfl⟩))
  | const v => rfl
  | global g => rfl
  | func f => rfl

theorem Agree.trans {o : Oper} {S S1 S2 : St} (h : Agree all o S S1) (h' : Agree all o S1 S2) : Agree all o S S2 :=
  ⟨h'.1.trans h.1, fun t ht => (h'.2 t ht).trans (h.2 t ht)⟩

theorem Agree.symm {o : Oper} {S S1 : St} (h : Agree all o S S1) : Agree all o S1 S := ⟨h.1.symm, fun t ht => (h.2 t ht).symm⟩

/-- In every state that reads alike the operation gives v. -/
def Yields1 (P : Program) (E : Sums R) (all : Array Oper) (o : Oper) (v : SS) (S : St) : Prop :=
  ∀ S1, Agree all o S S1 → ∀ (κ' : St → Option R) (r' : R), κ' (setDst o v S1) = some r' → step1 P E all o S1 κ' = some r'

theorem same_put {S : St} {t : Nat} {s : SS} (h : nth S.slots t = s) : ({ S with slots := put S.slots t s } : St) = S := by
  subst h; rw [put_nth]

theorem quiet_step (hQ : ∀ f g, Qf f = true → E f = some g → QuietSum g) {o : Oper} (hq : opQuiet P Qf o.op = true) {S : St} {κ : St → Option R} {r : R} (h : step1 P E all o S κ = some r) :
    ∃ v, κ (setDst o v S) = some r ∧ Yields1 P E all o v S := by
  unfold step1 at h
  split at h
  · rename_i hg
    obtain ⟨v, hv, hr⟩ := opv_det hQ hq h
    refine ⟨v, hv, fun S1 ha κ' r' hk => ?_⟩
    unfold step1
    rw [hg]
    exact hr S1 ha.1 ha.rd (fun v S => κ' (setDst o v S)) r' hk
  · rename_i j want hg
    split at h
    · cases h
    · rename_i t ht
      have htl : t ∈ o.looksAt all := by
        unfold Oper.looksAt
        rw [hg]
        simp [ht]
      split at h
      · rename_i b hb
        have key : ∀ c : Bool, b = c → (bif c == want then opv P E { S with slots := put S.slots t (.at (.bool c)) } (o.dst.getD 0) o.op fun v S => κ (setDst o v S) else κ (setDst o .dead { S with slots := put S.slots t (.at (.bool c)) })) = some r →
            ∃ v, κ (setDst o v S) = some r ∧ Yields1 P E all o v S := by
          rintro c rfl h
          rw [same_put hb] at h
          have back : ∀ S1, Agree all o S S1 → ∀ (κ' : St → Option R), step1 P E all o S1 κ' = (bif b == want then opv P E S1 (o.dst.getD 0) o.op fun v S => κ' (setDst o v S) else κ' (setDst o .dead S1)) := by
            intro S1 ha κ'
            have hb1 : nth S1.slots t = .val (.one (.at (.bool b))) := by rw [ha.2 t htl, hb]
            unfold step1
            rw [hg]
            simp only [ht, hb1]
            cases b with
            | true => simp only [cond_true]; rw [same_put hb1]
            | false => simp only [cond_false]; rw [same_put hb1]
          cases hw : (b == want) with
          | true =>
            rw [hw] at h
            simp only [cond_true] at h
            obtain ⟨v, hv, hr⟩ := opv_det hQ hq h
            refine ⟨v, hv, fun S1 ha κ' r' hk => ?_⟩
            rw [back S1 ha, hw]
            exact hr S1 ha.1 ha.rd (fun v S => κ' (setDst o v S)) r' hk
          | false =>
            rw [hw] at h
            simp only [cond_false] at h
            refine ⟨.dead, h, fun S1 ha κ' r' hk => ?_⟩
            rw [back S1 ha, hw]
            exact hk
        cases b with
        | true => exact key true rfl h
        | false => exact key false rfl h
      · cases h

theorem setDst_objs (o : Oper) (v : SS) (S : St) : (setDst o v S).objs = S.objs := by
  unfold setDst; split <;> rfl

theorem agree_set {a b : Oper} (h : a.apart all b = true) (v : SS) (S : St) : Agree all b S (setDst a v S) := by
  obtain ⟨h1, _, _⟩ := Oper.apart_spec h
  refine ⟨setDst_objs a v S, fun t ht => ?_⟩
  unfold setDst
  split
  · rename_i d hd
    exact nth_put_ne _ _ fun e => h1 d hd (e ▸ ht)
  · rfl

theorem agree_set' {a b : Oper} (h : a.apart all b = true) (v : SS) (S : St) : Agree all a S (setDst b v S) := by
  obtain ⟨_, _, h3⟩ := Oper.apart_spec h
  refine ⟨setDst_objs b v S, fun t ht => ?_⟩
  unfold setDst
  split
  · rename_i d hd
    exact nth_put_ne _ _ fun e => h3 d hd (e ▸ ht)
  · rfl

theorem setDst_comm {a b : Oper} (h : a.apart all b = true) (u v : SS) (S : St) : setDst b v (setDst a u S) = setDst a u (setDst b v S) := by
  obtain ⟨_, h2, _⟩ := Oper.apart_spec h
  unfold setDst
  cases ha : a.dst with
  | none => simp only
  | some d =>
    cases hb : b.dst with
    | none => rfl
    | some e =>
      have hne : d ≠ e := fun he => h2 d ha (by rw [hb, he])
      simp only [put_comm _ _ _ hne]

/-- An operation that is apart from the quiet ones ahead of it may be taken first. -/
theorem take_first (hQ : ∀ f g, Qf f = true → E f = some g → QuietSum g) {o : Oper} (ho : opQuiet P Qf o.op = true) : ∀ (A : List Oper) {B : List Oper} {S : St} {κ : St → Option R} {r : R},
    (∀ a ∈ A, opQuiet P Qf a.op = true ∧ a.apart all o = true) → ops P E all (A ++ o :: B) S κ = some r →
    ∃ v, Yields1 P E all o v S ∧ ops P E all (A ++ B) (setDst o v S) κ = some r
  | [], B, S, κ, r, _, h => by
    obtain ⟨v, hv, hy⟩ := quiet_step (κ := fun S => ops P E all B S κ) hQ ho h
    exact ⟨v, hy, hv⟩
  | a :: A, B, S, κ, r, hA, h => by
    obtain ⟨haq, hap⟩ := hA a (.head _)
    obtain ⟨va, hva, hya⟩ := quiet_step (κ := fun S => ops P E all (A ++ o :: B) S κ) hQ haq h
    obtain ⟨v, hy, hr⟩ := take_first hQ ho A (fun b hb => hA b (.tail _ hb)) hva
    refine ⟨v, fun S1 h1 => hy S1 ?_, ?_⟩
    · exact ((agree_set hap va S).symm).trans h1
    · refine hya (setDst o v S) (agree_set' hap v S) (fun S => ops P E all (A ++ B) S κ) r ?_
      rw [← setDst_comm hap va v S]
      exact hr

end

section
variable {R : Type} {C : Ctx} {ds : List Deferred} {E : Sums R} {Qf : FuncId → Bool} {os : Array Oper}

theorem step1_wp (hE : ∀ f g, E f = some g → SumOk C f g) {i : Nat} {o : Oper} (hi : os[i]? = some o) {Q : Exit → Act → World → Prop} {K : Act → World → Prop} {κ : St → Option R} {r : R} {hd : Nat → Value} {S : St} {tmps : Array Value} {w : World}
    (I : Inv C hd S tmps w) (h : step1 C.P E os o S κ = some r) (hK : ∀ hd' S' tmps' w', κ S' = some r → Inv C hd' S' tmps' w' → K { tmps := tmps', defers := ds } w') :
    wpOp C.P os Q i K { tmps, defers := ds } w := by
  have go : ∀ (S1 : St), Inv C hd S1 tmps w → (opv C.P E S1 (o.dst.getD 0) o.op fun v S => κ (setDst o v S)) = some r → o.wp C.P { tmps, defers := ds } w K Q := by
    intro S1 I1 h1
    refine opv_wp hE I1 h1 ?_
    intro v w' hd' S' s hk I' hs
    obtain ⟨tmps', hp, I2⟩ := put_dst (o := o) (ds := ds) I' hs
    rw [hp]
    exact hK _ _ _ _ hk I2
  have skip : ∀ (S1 : St), Inv C hd S1 tmps w → κ (setDst o .dead S1) = some r → K (({ tmps, defers := ds } : Act).put o.dst undef) w := by
    intro S1 I1 h1
    obtain ⟨tmps', hp, I2⟩ := put_dst (o := o) (ds := ds) I1 (SSRel.dead w _ hd undef)
    rw [hp]
    exact hK _ _ _ _ h1 I2
  unfold wpOp
  simp only [hi]
  unfold step1 at h
  split at h
  · rename_i hg
    rw [if_pos (by simp [Region.wanted, hg])]
    exact .inl (go S I h)
  · rename_i j want hg
    split at h
    · cases h
    · rename_i t ht
      split at h
      · rename_i b hb
        obtain ⟨x, hx, hxb⟩ := all2_nth_at t I.slots hb
        have hxb : x = .bool b := hxb
        subst hxb
        have hy : yielded os tmps j = some b := by
          have : tmps[t]? = some (.bool b) := by simpa using hx
          simp [yielded, ht, this]
        have hw : Region.wanted o (yielded os tmps) = (b == want) := by simp [Region.wanted, hg, hy]
        rw [hw]
        have I1 : ({ S with slots := put S.slots t (.at (.bool b)) } : St) = S := same_put hb
        cases b with
        | true =>
          simp only [cond_true] at h
          rw [I1] at h
          cases hwant : (true == want) with
          | true => rw [hwant] at h; rw [if_pos rfl]; exact .inl (go _ I h)
          | false => rw [hwant] at h; rw [if_neg (by simp)]; exact skip _ I h
        | false =>
          simp only [cond_false] at h
          rw [I1] at h
          cases hwant : (false == want) with
          | true => rw [hwant] at h; rw [if_pos rfl]; exact .inl (go _ I h)
          | false => rw [hwant] at h; rw [if_neg (by simp)]; exact skip _ I h
      · cases h

theorem Inv.drew {hd : Nat → Value} {S : St} {tmps : Array Value} {w : World} (I : Inv C hd S tmps w) : Inv C hd S tmps { w with drawn := w.drawn + 1 } := by
  have k : Keeps w w.drew (C.F hd S) (C.F hd S) := ⟨fun _ _ _ => rfl, fun _ _ h => h⟩
  have kc : ∀ c v, CvRel w (C.F hd S) hd c v → CvRel w.drew (C.F hd S) hd c v := by
    intro c v h
    cases c with
    | one v => exact SVRel.keep k (fun _ _ => rfl) h
    | agg l => obtain ⟨cs, hx, hl⟩ := h; exact ⟨cs, hx, all2.mono (fun a x hx => SVRel.keep k (fun _ _ => rfl) hx) hl⟩
  refine ⟨all2.mono (fun s v h => ?_) I.slots, fun p hp => ObRel.keep k rfl (fun b _ => rfl) (I.objs p hp), I.nodup, I.apart, I.place, ⟨I.still.os, I.still.tape, I.still.output, I.still.size, I.still.block⟩⟩
  cases s with
  | val c => exact kc c v h
  | tup l => obtain ⟨vs, hx, hl⟩ := h; exact ⟨vs, hx, all2.mono kc hl⟩

/-- What has not come up yet, in the text's order. -/
def rest (os : Array Oper) (listed : Array Bool) : List Nat := (List.range os.size).filter fun i => !listed.getD i true

def opsAt (os : Array Oper) (l : List Nat) : List Oper := l.filterMap (os[·]?)

theorem rest_sorted (os : Array Oper) (listed : Array Bool) : (rest os listed).Pairwise (· < ·) := (List.pairwise_lt_range).filter _

theorem rest_set {listed : Array Bool} {i : Nat} (hi : i ∈ rest os listed) (hsz : listed.size = os.size) {A B : List Nat} (h : rest os listed = A ++ i :: B) : rest os (listed.setIfInBounds i true) = A ++ B := by
  have hs := rest_sorted os listed
  rw [h] at hs
  have hnd : (A ++ i :: B).Nodup := hs.imp (fun h => Nat.ne_of_lt h)
  have e : rest os (listed.setIfInBounds i true) = (rest os listed).filter fun j => j != i := by
    unfold rest
    rw [List.filter_filter]
    apply List.filter_congr
    intro j hj
    have hj' : j < listed.size := by rw [hsz]; simpa using hj
    by_cases hji : j = i
    · subst hji
      simp [Array.getD_eq_getD_getElem?, hj']
    · have : (listed.setIfInBounds i true).getD j true = listed.getD j true := by
        simp [Array.getD_eq_getD_getElem?, Array.getElem?_setIfInBounds_ne (Ne.symm hji)]
      rw [this]
      simp [hji]
  rw [e, h, List.filter_append, List.filter_cons]
  have hA : A.filter (fun j => j != i) = A := List.filter_eq_self.2 fun j hj => by
    have := List.nodup_append.1 hnd
    simpa using this.2.2 j hj i (.head _)
  have hB : B.filter (fun j => j != i) = B := List.filter_eq_self.2 fun j hj => by
    have := (List.nodup_cons.1 (List.nodup_append.1 hnd).2.1).1
    simp only [bne_iff_ne, ne_eq]
    rintro rfl
    exact this hj
  simp [hA, hB]

theorem all_zipIdx {l : List Oper} {p : Oper × Nat → Bool} (h : l.zipIdx.all p = true) {i : Nat} {o : Oper} (hi : l[i]? = some o) : p (o, i) = true := by
  rw [List.all_eq_true] at h
  refine h (o, i) ?_
  rw [List.mem_zipIdx_iff_getElem?]
  simpa using hi

def DepsListed (os : Array Oper) (k : Nat) (listed : Array Bool) : Prop := ∀ o, os[k]? = some o → ∀ e ∈ o.after, listed.getD e.on false = true
def Closed (os : Array Oper) (listed : Array Bool) : Prop := ∀ k, listed.getD k false = true → DepsListed os k listed
def Needs (os : Array Oper) (k j : Nat) : Prop := ∀ listed, Closed os listed → DepsListed os k listed → listed.getD j false = true

theorem row_bit (acc : List Nat) (j : Nat) : ∀ (l : List Edge) (s : Nat), (l.foldl (fun s e => s ||| 2 ^ e.on ||| acc.getD e.on 0) s).testBit j = true →
    s.testBit j = true ∨ ∃ e ∈ l, j = e.on ∨ (acc.getD e.on 0).testBit j = true
  | [], s, h => .inl h
  | e :: l, s, h => by
    rcases row_bit acc j l _ h with h | ⟨e', he', h⟩
    · simp only [Nat.testBit_or, Bool.or_eq_true, Nat.testBit_two_pow, decide_eq_true_eq] at h
      rcases h with (h | h) | h
      · exact .inl h
      · exact .inr ⟨e, .head _, .inl h.symm⟩
      · exact .inr ⟨e, .head _, .inr h⟩
    · exact .inr ⟨e', .tail _ he', h⟩

theorem befores_ok : ∀ (l : List Oper) (acc : List Nat), os.toList.drop acc.length = l → (∀ k m, acc[k]? = some m → ∀ j, m.testBit j = true → Needs os k j) →
    ∀ k m, (befores l acc)[k]? = some m → ∀ j, m.testBit j = true → Needs os k j
  | [], acc, _, h => h
  | o :: l, acc, hd, h => by
    refine befores_ok l _ ?_ ?_
    · rw [List.length_append, List.length_singleton, ← List.drop_drop, hd]; rfl
    · intro k m hk j hj
      rw [List.getElem?_append] at hk
      split at hk
      · exact h k m hk j hj
      · rename_i hge
        have hk0 : k = acc.length := by
          rcases Nat.lt_or_ge (k - acc.length) 1 with h' | h'
          · omega
          · rw [List.getElem?_eq_none (by simpa using h')] at hk; cases hk
        subst hk0
        simp only [Nat.sub_self, List.getElem?_cons_zero, Option.some.injEq] at hk
        subst hk
        have ho : os[acc.length]? = some o := by
          have := congrArg (·[0]?) hd
          simpa [List.getElem?_drop] using this
        intro listed hc hdeps
        rw [← Array.foldl_toList] at hj
        rcases row_bit acc j o.after.toList 0 hj with hj | ⟨e, he, hj | hj⟩
        · simp at hj
        · rw [hj]; exact hdeps o ho e (by simpa using he)
        · have hm : acc[e.on]? = some (acc.getD e.on 0) := by
            cases hq : acc[e.on]? with
            | none => simp [List.getD, hq] at hj
            | some m => simp [List.getD, hq]
          exact h e.on _ hm j hj listed hc (hc e.on (hdeps o ho e (by simpa using he)))

theorem opsAt_append (A B : List Nat) : opsAt os (A ++ B) = opsAt os A ++ opsAt os B := by simp [opsAt]

theorem any_ok (hE : ∀ f g, E f = some g → SumOk C f g) (hQ : ∀ f g, Qf f = true → E f = some g → QuietSum g) (hd0 : drawOk C.P Qf os = true) {Q : Exit → Act → World → Prop} {κ : St → Option R} {r : R}
    (hK : ∀ hd' S' tmps' w', κ S' = some r → Inv C hd' S' tmps' w' → Q .normal { tmps := tmps', defers := ds } w') :
    ∀ (fuel : Nat) (listed : Array Bool) (hd : Nat → Value) (S : St) (tmps : Array Value) (w : World), listed.size = os.size → Closed os listed → (rest os listed).length = fuel → Inv C hd S tmps w →
      ops C.P E os (opsAt os (rest os listed)) S κ = some r → wpAny C.P .any os Q fuel listed { tmps, defers := ds } w := by
  simp only [drawOk, Bool.and_eq_true] at hd0
  obtain ⟨_, hall⟩ := hd0
  have chk := fun (i : Nat) (o : Oper) (hi : os[i]? = some o) => all_zipIdx hall (i := i) (o := o) (by simpa using hi)
  have hbef : ∀ k m, (befores os.toList [])[k]? = some m → ∀ j, m.testBit j = true → Needs os k j := befores_ok os.toList [] (by simp) (by simp)
  have hneeds : ∀ k j, ((befores os.toList []).getD k 0).testBit j = true → Needs os k j := by
    intro k j h
    cases hq : (befores os.toList [])[k]? with
    | none => simp [List.getD, hq] at h
    | some m => exact hbef k m hq j (by simpa [List.getD, hq] using h)
  have hrest : ∀ (listed : Array Bool) (i : Nat), i ∈ rest os listed ↔ i < os.size ∧ listed.getD i true = false := by
    intro listed i; simp [rest]
  have hready : ∀ (listed : Array Bool) (i : Nat), i ∈ Region.ready .any os listed ↔ i ∈ rest os listed ∧ DepsListed os i listed := by
    intro listed i
    simp only [Region.ready, List.mem_filter, List.mem_range, hrest, Bool.and_eq_true, Bool.not_eq_true']
    constructor
    · rintro ⟨h1, h2, h3⟩
      refine ⟨⟨h1, h2⟩, fun o ho e he => ?_⟩
      rw [ho] at h3
      simp only [Option.map_some, Option.getD_some, Array.all_eq_true'] at h3
      have hb := chk i o ho
      simp only [Bool.and_eq_true] at hb
      have hb2 := (Array.all_eq_true'.1 hb.1) e he
      simp only [Bool.and_eq_true] at hb2
      have := h3 e he
      rw [hb2.2] at this
      simpa using this
    · rintro ⟨⟨h1, h2⟩, h3⟩
      refine ⟨h1, h2, ?_⟩
      have ho : os[i]? = some os[i] := by simp [h1]
      rw [ho]
      simp only [Option.map_some, Option.getD_some, Array.all_eq_true']
      intro e he
      simp [h3 _ ho e he]
  have hfalse : ∀ (listed : Array Bool) (i : Nat), listed.size = os.size → i < os.size → (listed.getD i false = true ↔ ¬ listed.getD i true = false) := by
    intro listed i hsz hi
    have : listed[i]? = some (listed[i]'(by omega)) := by simp [hsz, hi]
    simp [Array.getD_eq_getD_getElem?, this]
  intro fuel
  induction fuel with
  | zero =>
    intro listed hd S tmps w hsz hc hf I h
    have h0 : rest os listed = [] := List.eq_nil_of_length_eq_zero hf
    rw [h0] at h
    refine ⟨?_, hK _ _ _ _ h I⟩
    cases hr : Region.ready .any os listed with
    | nil => rfl
    | cons i l => have := ((hready listed i).1 (by rw [hr]; exact .head _)).1; rw [h0] at this; cases this
  | succ fuel ih =>
    intro listed hd S tmps w hsz hc hf I h
    refine ⟨?_, ?_⟩
    · intro hr
      -- the least one that is left is ready
      exfalso
      cases hrs : rest os listed with
      | nil => rw [hrs] at hf; cases hf
      | cons i l =>
        have hs := rest_sorted os listed
        rw [hrs] at hs
        have hi : i ∈ rest os listed := by rw [hrs]; exact .head _
        have hi' := (hrest listed i).1 hi
        have : i ∈ Region.ready .any os listed := by
          refine (hready listed i).2 ⟨hi, fun o ho e he => ?_⟩
          have hb := chk i o ho
          simp only [Bool.and_eq_true] at hb
          have hb2 := (Array.all_eq_true'.1 hb.1) e he
          simp only [Bool.and_eq_true] at hb2
          have hlt : e.on < i := by simpa [Nat.blt_eq] using hb2.1
          rw [hfalse listed e.on hsz (by omega)]
          intro hn
          have hin : e.on ∈ rest os listed := (hrest listed e.on).2 ⟨by omega, hn⟩
          rw [hrs] at hin
          rcases List.mem_cons.1 hin with h1 | h1
          · omega
          · have := (List.pairwise_cons.1 hs).1 e.on h1; omega
        rw [hr] at this; cases this
    · intro i hi
      obtain ⟨hir, hdeps⟩ := (hready listed i).1 hi
      obtain ⟨hilt, _⟩ := (hrest listed i).1 hir
      obtain ⟨A, B, hAB⟩ := List.append_of_mem hir
      have ho : os[i]? = some os[i] := by simp [hilt]
      have hset := rest_set hir hsz hAB
      have hA : ∀ a ∈ A, a < i ∧ a < os.size ∧ ¬ listed.getD a false = true := by
        intro a ha
        have hs := rest_sorted os listed
        rw [hAB] at hs
        have h1 := (List.pairwise_append.1 hs).2.2 a ha i (.head _)
        have h2 := (hrest listed a).1 (by rw [hAB]; exact List.mem_append_left _ ha)
        exact ⟨h1, h2.1, fun h3 => (hfalse listed a hsz h2.1).1 h3 h2.2⟩
      have hclosed : Closed os (listed.setIfInBounds i true) := by
        have hmono : ∀ k, listed.getD k false = true → (listed.setIfInBounds i true).getD k false = true := by
          intro k hk
          by_cases hki : i = k
          · subst hki; simp [Array.getD_eq_getD_getElem?, hsz, hilt]
          · simpa [Array.getD_eq_getD_getElem?, Array.getElem?_setIfInBounds_ne hki] using hk
        intro k hk o hok e he
        by_cases hki : i = k
        · subst hki; exact hmono _ (hdeps o hok e he)
        · refine hmono _ (hc k ?_ o hok e he)
          simpa [Array.getD_eq_getD_getElem?, Array.getElem?_setIfInBounds_ne hki] using hk
      have hlen : (rest os (listed.setIfInBounds i true)).length = fuel := by
        rw [hset]
        have := congrArg List.length hAB
        simp only [List.length_append, List.length_cons, hf] at this ⊢
        omega
      rw [hAB, opsAt_append] at h
      have hcons : opsAt os (i :: B) = os[i] :: opsAt os B := by simp [opsAt, ho]
      rw [hcons] at h
      have next : ∀ hd' S' tmps' w', (fun S => ops C.P E os (opsAt os A ++ opsAt os B) S κ) S' = some r → Inv C hd' S' tmps' w' →
          wpAny C.P .any os Q fuel (listed.setIfInBounds i true) { tmps := tmps', defers := ds } w' := by
        intro hd' S' tmps' w' hk I'
        exact ih _ hd' S' tmps' w' (by simp [hsz]) hclosed hlen I' (by rw [hset, opsAt_append]; exact hk)
      have hb := chk i _ ho
      simp only [Bool.and_eq_true, Bool.or_eq_true] at hb
      rcases hb.2 with ⟨hqi, hb2⟩ | hb2
      · have hAq : ∀ o ∈ opsAt os A, opQuiet C.P Qf o.op = true ∧ o.apart os os[i] = true := by
          intro o hoA
          simp only [opsAt, List.mem_filterMap] at hoA
          obtain ⟨a, ha, hoa⟩ := hoA
          obtain ⟨h1, h2, h3⟩ := hA a ha
          have := all_zipIdx hb2 (i := a) (o := o) (by simpa using hoa)
          simp only [Bool.or_eq_true, Bool.and_eq_true, Bool.not_eq_true'] at this
          rcases this with (h4 | ⟨h4, h5⟩) | ⟨_, h5⟩
          · have : Nat.blt a i = true := by simpa [Nat.blt_eq] using h1
            rw [this] at h4; cases h4
          · rcases h5 with h5 | h5
            · simp only [edgesTo, Array.any_eq_true'] at h5
              obtain ⟨e, he, h6⟩ := h5
              have h6 := Nat.eq_of_beq_eq_true h6
              have := hdeps _ ho e he
              rw [h6] at this
              exact absurd this h3
            · exact ⟨h4, h5⟩
          · exact absurd (hneeds i a h5 listed hc hdeps) h3
        obtain ⟨v, hy, hr⟩ := take_first hQ hqi (opsAt os A) hAq h
        exact step1_wp hE ho I (hy S ⟨rfl, fun _ _ => rfl⟩ (fun S => ops C.P E os (opsAt os A ++ opsAt os B) S κ) r hr) next
      · have hA0 : A = [] := by
          cases hA' : A with
          | nil => rfl
          | cons a A' =>
            obtain ⟨h1, h2, h3⟩ := hA a (by rw [hA']; exact .head _)
            rw [List.all_eq_true] at hb2
            exact absurd (hneeds i a (hb2 a (by simpa using h1)) listed hc hdeps) h3
        subst hA0
        exact step1_wp hE ho I (κ := fun S => ops C.P E os (opsAt os B) S κ) h next

theorem draw_wp (hE : ∀ f g, E f = some g → SumOk C f g) (hQ : ∀ f g, Qf f = true → E f = some g → QuietSum g) (hd0 : drawOk C.P Qf os = true) {Q : Exit → Act → World → Prop} {κ : St → Option R} {r : R} {id : Nat}
    (hK : ∀ hd' S' tmps' w', κ S' = some r → Inv C hd' S' tmps' w' → Q .normal { tmps := tmps', defers := ds } w') {hd : Nat → Value} {S : St} {tmps : Array Value} {w : World} (I : Inv C hd S tmps w)
    (h : ops C.P E os os.toList S κ = some r) : (Code.region id os true).wp C.P Q { tmps, defers := ds } w := by
  have hm : C.P.follows .mixedOrders = true := by
    simp only [drawOk, Bool.and_eq_true] at hd0; exact hd0.1
  refine wp_region_any hm (any_ok hE hQ hd0 hK os.size _ hd S tmps _ (by simp) ?_ ?_ I.drew ?_)
  · intro k hk
    exfalso
    by_cases hlt : k < os.size <;> simp [Array.getD_eq_getD_getElem?, hlt] at hk
  · have : rest os (Array.replicate os.size false) = List.range os.size := by
      unfold rest
      refine List.filter_eq_self.2 fun i hi => ?_
      have hi : i < os.size := by simpa using hi
      simp [Array.getD_eq_getD_getElem?, hi]
    rw [this, List.length_range]
  · have : rest os (Array.replicate os.size false) = List.range os.size := by
      unfold rest
      refine List.filter_eq_self.2 fun i hi => ?_
      have hi : i < os.size := by simpa using hi
      simp [Array.getD_eq_getD_getElem?, hi]
    rw [this]
    have e : opsAt os (List.range os.size) = os.toList := by
      unfold opsAt
      apply List.ext_getElem?
      intro j
      have key : ∀ n, n ≤ os.size → (List.range n).filterMap (os[·]?) = os.toList.take n := by
        intro n
        induction n with
        | zero => intro _; simp
        | succ n ih =>
          intro hn
          have hget : os[n]? = some os[n] := by simp [show n < os.size by omega]
          rw [List.range_succ, List.filterMap_append, ih (by omega), List.take_add_one]
          simp [hget]
      rw [key os.size (Nat.le_refl _), List.take_of_length_le (by simp)]
    rw [e]
    exact h

end
end Go.Sh
