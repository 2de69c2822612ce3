/-
  The shadow evaluator's operations are right, III: what writes and makes memory. No project text.
-/
import Derived.Test.YtkmbehagofjmbaaGreatShRun
namespace Go.Sh

theorem SVRel.solid {w : World} {F : Nat → Prop} {hd : Nat → Value} {v : SV} {x : Value} (h : SVRel w F hd v x) (hs : v.solid = true) : x.oneCell' = true := by
  cases v with
  | «at» v => cases h; exact hs
  | fz t l => rcases h with ⟨⟨_, rfl⟩, _⟩ | ⟨b, off, cap, xs, rfl, _⟩ <;> rfl
  | own i => obtain ⟨_, h⟩ := h; cases x <;> first | rfl | (simp [isHdl] at h)
  | vw i n o l => rcases h with ⟨_, rfl, _⟩ | ⟨b, o, L, C, cap, _, rfl, _⟩ <;> rfl
  | ptr i o => obtain ⟨b, _, rfl⟩ := h; rfl
  | ep i n a j => obtain ⟨b, L, C, _, rfl⟩ := h; rfl
  | bs i off n t => obtain ⟨b, _, rfl⟩ := h; rfl
  | es i n a j m t => obtain ⟨b, L, C, _, rfl⟩ := h; rfl
  | fp t d j => obtain ⟨b, o, cs, rfl, _⟩ := h; rfl
  | dead => cases hs

theorem all2_solids {w : World} {F : Nat → Prop} {hd : Nat → Value} : ∀ {l : List SV} {m : List Value}, all2 (SVRel w F hd) l m → solids l = true → ∀ v ∈ m, v.oneCell' = true
  | [], [], _, _, _, hv => by simp at hv
  | _ :: _, _ :: _, h, hs, v, hv => by
    simp only [solids, Bool.and_eq_true] at hs
    rcases List.mem_cons.1 hv with rfl | hv
    · exact h.1.solid hs.1
    · exact all2_solids h.2 hs.2 v hv
  | [], _ :: _, h, _, _, _ => h.elim
  | _ :: _, [], h, _, _, _ => h.elim

theorem Ty.cells_one {w : World} {F : Nat → Prop} : ∀ (t : Ty) (x : t.den) (cs : List Value), t.cells w F x cs → ∀ v ∈ cs, v.oneCell' = true
  | .int _, _, _, h, v, hv => by cases h; simp at hv; subst hv; rfl
  | .bool, _, _, h, v, hv => by cases h; simp at hv; subst hv; rfl
  | .str, _, _, h, v, hv => by cases h; simp at hv; subst hv; rfl
  | .un, _, _, h, v, hv => by cases h; simp at hv
  | .sl _, _, _, ⟨u, h, hs⟩, v, hv => by
    cases h; simp at hv; subst hv
    rcases hs with ⟨⟨_, rfl⟩, _⟩ | ⟨b, off, cap, xs, rfl, _⟩ <;> rfl
  | .pr a b, _, _, ⟨c, d, h, hc, hd⟩, v, hv => by
    rw [h, List.mem_append] at hv
    rcases hv with hv | hv
    · exact a.cells_one _ _ hc v hv
    · exact b.cells_one _ _ hd v hv

theorem rows.one {α : Type} {R : α → List Value → Prop} (h1 : ∀ x c, R x c → ∀ v ∈ c, v.oneCell' = true) : ∀ {l : List α} {xs : List Value}, rows R l xs → ∀ v ∈ xs, v.oneCell' = true
  | [], _, h, v, hv => by cases h; simp at hv
  | _ :: _, _, ⟨c, r, h, hc, hl⟩, v, hv => by
    rw [h, List.mem_append] at hv
    rcases hv with hv | hv
    · exact h1 _ _ hc v hv
    · exact rows.one h1 hl v hv

theorem rows.at {α : Type} {R : α → List Value → Prop} {n : Nat} (hn : ∀ x c, R x c → c.length = n) : ∀ {l : List α} {xs : List Value} (a : Nat) (x : α), rows R l xs → l[a]? = some x →
    ∃ pre c post, xs = pre ++ c ++ post ∧ pre.length = a * n ∧ R x c ∧ ∀ x' c', R x' c' → rows R (l.set a x') (pre ++ c' ++ post)
  | [], _, _, _, _, hx => by simp at hx
  | y :: l, _, 0, x, ⟨c, r, h, hc, hl⟩, hx => by
    simp at hx; subst hx
    exact ⟨[], c, r, h, by simp, hc, fun x' c' h' => ⟨c', r, rfl, h', hl⟩⟩
  | y :: l, _, a + 1, x, ⟨c, r, h, hc, hl⟩, hx => by
    obtain ⟨pre, d, post, h1, h2, h3, h4⟩ := rows.at hn a x hl (by simpa using hx)
    refine ⟨c ++ pre, d, post, by rw [h, h1]; simp, by rw [List.length_append, hn _ _ hc, h2, Nat.add_mul, Nat.one_mul, Nat.add_comm], h3, fun x' c' h' => ⟨c, pre ++ c' ++ post, by simp, hc, h4 x' c' h'⟩⟩

section
variable {R : Type} {C : Ctx} {hd : Nat → Value} {S : St} {lk : Lk} {tmps : Array Value} {w : World}

theorem on_setRow (w : World) (g : Nat) (cs : Array Value) : On w (w.setRow g cs) := ⟨rfl, rfl, rfl, by simp⟩
theorem on_alloc (w : World) (o : Obj) : On w (w.alloc o) := ⟨rfl, rfl, rfl, by simp⟩

/-- An owned list's header reads as the list, where the object is forgotten. -/
theorem own_frozen {F' : Nat → Prop} {e : TypeId} {t : Ty} {l : List t.den} {v : Value} (h : ObRel w (C.F hd S) hd v (.arr e t l)) (k : Keeps w w (C.F hd S) F') (hF : ∀ b, blk v = some b → ¬ F' b) :
    sliceRel (t.cells w F') w F' l v := by
  obtain ⟨xs, ho, hr⟩ := h
  have hr' := rows.mono (t.cells_keep k) hr
  rcases ho.2 with ⟨rfl, hn⟩ | ⟨g, cap, cur, rfl, _, hg, hle, _, _, htake⟩
  · exact .inl ⟨⟨_, rfl⟩, List.eq_nil_of_length_eq_zero hn⟩
  · refine .inr ⟨g, 0, cap, xs, rfl, hle, hr', ?_, .inr (hF g rfl)⟩
    intro j c hj
    have := ho.cells (g := g) rfl j c hj
    rwa [addr_add] at this

theorem vw_frozen {F' : Nat → Prop} {i : Nat} {e : TypeId} {t : Ty} {l : List t.den} {off len : Nat} {x : Value} (h : ObRel w (C.F hd S) hd (hd i) (.arr e t l)) (k : Keeps w w (C.F hd S) F') (hF : ∀ b, blk (hd i) = some b → ¬ F' b)
    (hx : SVRel w (C.F hd S) hd (.vw i t.nc off len) x) : sliceRel (t.cells w F') w F' ((l.drop off).take len) x := by
  obtain ⟨xs, ho, hr⟩ := h
  have hr' := rows.mono (t.cells_keep k) hr
  rcases hx with ⟨hn, rfl, rfl, rfl⟩ | ⟨b, o, L, C', cap, hb, rfl, hle, hoL, hoff, _⟩
  · exact .inl ⟨⟨_, rfl⟩, by simp⟩
  · have hL : L = l.length := by
      rcases ho.2 with ⟨h1, _⟩ | ⟨g, cap', cur, h1, _⟩
      · rw [hb] at h1; cases h1
      · rw [hb] at h1; simp only [Value.slice.injEq] at h1; exact h1.2.1
    have hlen : ((l.drop off).take len).length = len := by rw [List.length_take, List.length_drop]; omega
    rcases hoff with rfl | rfl
    · have h2 := rows.take t.cells_len len (rows.drop t.cells_len off hr')
      refine .inr ⟨b, off * t.nc, cap, _, by rw [hlen], by rw [hlen]; exact hle, h2, ?_, .inr (hF b (by rw [hb]; rfl))⟩
      intro j c hj
      rw [List.getElem?_take] at hj
      split at hj
      · rw [List.getElem?_drop] at hj
        have := ho.cells (g := b) (by rw [hb]; rfl) _ c hj
        rwa [addr_add, Nat.zero_add] at this
      · cases hj
    · refine .inr ⟨b, o, cap, [], by simp, by simp, by simp [rows], by simp, .inl rfl⟩

theorem not_F_dropped (I : Inv C hd S tmps w) {i : Nat} {o : Ob} (hi : (i, o) ∈ S.objs) : ∀ b, blk (hd i) = some b → ¬ C.F hd (S.drop i) b := by
  intro b hb h
  rcases h with h | ⟨p, hp, hpb⟩
  · have := C.small b h
    rcases I.place _ hi b hb with h' | h'
    · omega
    · exact this.2 h'
  · obtain ⟨hne, o', ho', _⟩ := mem_killObjs hp
    exact I.apart _ ho' _ hi hne b hpb hb

theorem look_killObjs {i k : Nat} (h : i ≠ k) : ∀ (l : List (Nat × Ob)), look (killObjs i l) k = (look l k).map (Ob.killed i)
  | [] => rfl
  | (j, o) :: l => by
    simp only [killObjs, look]
    cases hb : Nat.beq j i with
    | true =>
      have e := Nat.eq_of_beq_eq_true hb
      have : Nat.beq j k = false := by
        cases hk : Nat.beq j k with
        | false => rfl
        | true => exact absurd (e.symm.trans (Nat.eq_of_beq_eq_true hk)) h
      simp [this, look_killObjs h l]
    | false =>
      simp only [cond_false, look]
      cases hk : Nat.beq j k with
      | true => simp
      | false => simp [look_killObjs h l]

theorem mem_drop_arr {i j : Nat} {e : TypeId} {t : Ty} {m : List t.den} (h : j ≠ i) : ∀ {l : List (Nat × Ob)}, (j, Ob.arr e t m) ∈ l → (j, Ob.arr e t m) ∈ killObjs i l
  | (k, o) :: l, hm => by
    simp only [killObjs]
    cases hb : Nat.beq k i with
    | true =>
      rcases List.mem_cons.1 hm with hm | hm
      · cases hm; exact absurd (Nat.eq_of_beq_eq_true hb) h
      · exact mem_drop_arr h hm
    | false =>
      rcases List.mem_cons.1 hm with hm | hm
      · cases hm; exact .head _
      · exact .tail _ (mem_drop_arr h hm)

theorem apps_append : ∀ (a b : List Ef) (S : St), apps (a ++ b) S = apps b (apps a S)
  | [], _, _ => rfl
  | _ :: a, b, S => apps_append a b _

theorem or_false_of {a b : Bool} (h : (a || b) = false) : a = false ∧ b = false := by cases a <;> cases b <;> simp_all

/-- Whole lists of the call's own that some cells refer to, as long as they are not gone. -/
def Has (lk : Lk) (gone : List Nat) (S : St) : Prop := ∀ i e t m, memN i gone = false → lk i = some (.arr e t m) → (i, Ob.arr e t m) ∈ S.objs

theorem Has.of (hsub : Sub lk S) : Has lk [] S := fun _ _ _ _ _ h => look_mem (hsub _ _ h)

theorem Has.drop {gone : List Nat} (h : Has lk gone S) (i : Nat) : Has lk (i :: gone) (S.drop i) := by
  intro j e t m hj hlk
  simp only [memN] at hj
  cases hb : Nat.beq i j with
  | true => rw [hb] at hj; cases hj
  | false =>
    rw [hb] at hj
    exact mem_drop_arr (fun e' => by subst e'; simp at hb) (h j e t m hj hlk)

theorem freezeAll_ok (k : Nat) : ∀ {vs : List SV} {S : St} {gone : List Nat} {xs : List Value} {vs' : List SV} {es : List Ef}, memN k gone = false → Inv C hd S tmps w → Has lk gone S → all2 (SVRel w (C.F hd S) hd) vs xs → freezeAll k lk gone vs = some (vs', es) →
    Inv C hd (apps es S) tmps w ∧ all2 (SVRel w (C.F hd (apps es S)) hd) vs' xs ∧ Keeps w w (C.F hd S) (C.F hd (apps es S)) ∧ ∀ e t m, lk k = some (.arr e t m) → (k, Ob.arr e t m) ∈ (apps es S).objs := by
  intro vs
  induction vs with
  | nil =>
    intro S gone xs vs' es hg I H h hk
    simp only [freezeAll, Option.some.injEq, Prod.mk.injEq] at hk
    obtain ⟨rfl, rfl⟩ := hk
    cases xs with
    | nil => exact ⟨I, trivial, Keeps.refl w _, fun e t m h => H k e t m hg h⟩
    | cons _ _ => exact h.elim
  | cons v vs ih =>
    intro S gone xs vs' es hg I H h hk
    cases xs with
    | nil => exact h.elim
    | cons x xs =>
      obtain ⟨hx, hxs⟩ := h
      have stay : ∀ v1 : SV, SVRel w (C.F hd S) hd v1 x → (∀ i, v1.ref ≠ some i) → (freezeAll k lk gone vs).map (fun p => (v1 :: p.1, p.2)) = some (vs', es) →
          Inv C hd (apps es S) tmps w ∧ all2 (SVRel w (C.F hd (apps es S)) hd) vs' (x :: xs) ∧ Keeps w w (C.F hd S) (C.F hd (apps es S)) ∧ ∀ e t m, lk k = some (.arr e t m) → (k, Ob.arr e t m) ∈ (apps es S).objs := by
        intro v1 h1 _ hk
        rw [Option.map_eq_some_iff] at hk
        obtain ⟨⟨l, fs⟩, hf, he⟩ := hk
        simp only [Prod.mk.injEq] at he
        obtain ⟨rfl, rfl⟩ := he
        obtain ⟨I', hvs', k', hm⟩ := ih hg I H hxs hf
        exact ⟨I', ⟨SVRel.keep k' (fun _ _ => rfl) h1, hvs'⟩, k', hm⟩
      have gon : ∀ (i : Nat) (v1 : SV), Nat.beq i k = false → SVRel w (C.F hd (S.drop i)) hd v1 x → (freezeAll k lk (i :: gone) vs).map (fun p => (v1 :: p.1, .drop i :: p.2)) = some (vs', es) →
          Inv C hd (apps es S) tmps w ∧ all2 (SVRel w (C.F hd (apps es S)) hd) vs' (x :: xs) ∧ Keeps w w (C.F hd S) (C.F hd (apps es S)) ∧ ∀ e t m, lk k = some (.arr e t m) → (k, Ob.arr e t m) ∈ (apps es S).objs := by
        intro i v1 hik h1 hk
        rw [Option.map_eq_some_iff] at hk
        obtain ⟨⟨l, fs⟩, hf, he⟩ := hk
        simp only [Prod.mk.injEq] at he
        obtain ⟨rfl, rfl⟩ := he
        obtain ⟨I1, k1⟩ := I.drop i
        obtain ⟨I', hvs', k', hm⟩ := ih (by simp only [memN, hik, cond_false]; exact hg) I1 (H.drop i) (all2.mono (fun a b hab => SVRel.keep k1 (fun _ _ => rfl) hab) hxs) hf
        exact ⟨I', ⟨SVRel.keep k' (fun _ _ => rfl) h1, hvs'⟩, ⟨fun b hb hlt => rfl, fun b hb h => k1.less b hb (k'.less b hb h)⟩, hm⟩
      unfold freezeAll at hk
      cases v with
      | «at» v => exact stay _ hx (by simp [SV.ref]) hk
      | fz t l => exact stay _ hx (by simp [SV.ref]) hk
      | own i =>
        simp only at hk
        obtain ⟨hb, hk⟩ := bif_some' hk
        obtain ⟨hb1, hb2⟩ := or_false_of hb
        split at hk
        · rename_i e t l hlk
          have hm := H i e t l hb2 hlk
          refine gon i _ hb1 ?_ hk
          rw [hx.1]
          exact own_frozen (I.objs _ hm) (I.drop i).2 (not_F_dropped I hm)
        · cases hk
      | vw i n off len =>
        simp only at hk
        obtain ⟨hb, hk⟩ := bif_some' hk
        obtain ⟨hb1, hb2⟩ := or_false_of hb
        split at hk
        · rename_i e t l hlk
          obtain ⟨hn, hk⟩ := bif_some hk
          have hn := Nat.eq_of_beq_eq_true hn
          have hm := H i e t l hb2 hlk
          refine gon i _ hb1 ?_ hk
          rw [hn] at hx
          exact vw_frozen (I.objs _ hm) (I.drop i).2 (not_F_dropped I hm) hx
        · cases hk
      | ptr i o => cases hk
      | ep i n a j => cases hk
      | bs i off n t => cases hk
      | es i n a j m t => cases hk
      | fp t d j => cases hk
      | dead => cases hk

/-- A store has run. -/
def GoodU (C : Ctx) (S : St) (tmps : Array Value) (κ : List Ef → Option R) (r : R) (res : Result Unit) : Prop :=
  ∃ w' hd' es, res = .ok () w' ∧ κ es = some r ∧ Inv C hd' (apps es S) tmps w'

theorem overlay_ok {F : Nat → Prop} {l vs l' : List SV} {o : Nat} {ys xs : List Value} (h : overlay l o vs = some l') (hl : all2 (SVRel w F hd) l ys) (hv : all2 (SVRel w F hd) vs xs) :
    all2 (SVRel w F hd) l' (ys.take o ++ xs ++ ys.drop (o + xs.length)) ∧ o + xs.length ≤ ys.length := by
  unfold overlay at h
  obtain ⟨hle, h⟩ := bif_some h
  have hle := Nat.le_of_ble_eq_true hle
  simp only [Option.some.injEq] at h
  subst h
  have e1 := hl.len
  have e2 := hv.len
  refine ⟨all2.app (all2.app (hl.take o) hv) ?_, by omega⟩
  rw [← e2]
  exact hl.drop _

theorem cells_of_ss {F : Nat → Prop} {s : SS} {v : Value} {vs : List SV} (h : SSRel w F hd s v) (hc : cellsOf s = some vs) (hs : solids vs = true) : all2 (SVRel w F hd) vs v.cells.toList := by
  cases s with
  | tup l => cases hc
  | val c =>
    cases c with
    | one sv =>
      simp only [cellsOf, Option.some.injEq] at hc
      subst hc
      have h1 := SVRel.solid (v := sv) h (by simpa [solids] using hs)
      have : v.cells = #[v] := by cases v <;> first | rfl | cases h1
      rw [this]
      exact ⟨h, trivial⟩
    | agg l =>
      simp only [cellsOf, Option.some.injEq] at hc
      subst hc
      obtain ⟨cs, rfl, hl⟩ := h
      exact hl

theorem cellsOf_pos {P : Program} {t : TypeId} : (P.info? t).isSome → (sizeOf t).run P w = .ok (P.cellsOf t) w := by
  intro h
  obtain ⟨i, hi⟩ := Option.isSome_iff_exists.1 h
  simp [sizeOf, typeInfo, hi, Program.cellsOf]

theorem put_elem {S1 : St} {i a b q : Nat} {L cc : Nat} {e : TypeId} {ty : Ty} {l : List ty.den} (I1 : Inv C hd S1 tmps w) (hm : (i, Ob.arr e ty l) ∈ S1.objs) (hb : hd i = .slice (some ⟨q, 0, none⟩) L cc)
    {vs' : List SV} {xv : List Value} (hvs' : all2 (SVRel w (C.F hd S1) hd) vs' xv) {d d' : ty.den} {cells' : List SV} (hd' : l[a]? = some d) (hov : overlay (enc ty d) b vs' = some cells') (hdec : decAll ty cells' = some d') :
    ∃ cur, w.heap[q]? = some (.cells cur e (0, 0)) ∧ a * ty.nc + b + xv.length ≤ cur.size ∧
      Inv C hd { S1 with objs := setOb i (.arr e ty (l.set a d')) S1.objs } tmps (w.setRow q (cur.toList.take (a * ty.nc + b) ++ xv ++ cur.toList.drop (a * ty.nc + b + xv.length)).toArray) := by
  obtain ⟨xs, ho, hr⟩ := I1.objs _ hm
  obtain ⟨pre, c, post, hxs, hpre, hRc, hset⟩ := rows.at ty.cells_len a d hr hd'
  obtain ⟨hnew, hfit⟩ := overlay_ok hov (enc_ok (hd := hd) ty d c hRc) hvs'
  have hd2 := decAll_ok hdec hnew
  have hcl := ty.cells_len _ _ hRc
  simp only at ho
  rw [hb] at ho
  rcases ho.2 with ⟨h0, _⟩ | ⟨g, cap, cur, h0, _, hg, hle, hcm, hcs, htake⟩
  · cases h0
  · simp only [Value.slice.injEq, Option.some.injEq, Addr.mk.injEq, and_true] at h0
    obtain ⟨rfl, rfl, rfl⟩ := h0
    have hxl : xs.length = l.length * ty.nc := ho.1
    have hpos : a < l.length := by
      rcases Nat.lt_or_ge a l.length with h | h
      · exact h
      · rw [List.getElem?_eq_none h] at hd'; cases hd'
    have hle2 : l.length * ty.nc ≤ cur.size := by rw [hcs]; exact Nat.mul_le_mul_right _ hle
    have hsum : a * ty.nc + c.length + post.length = l.length * ty.nc := by
      have := congrArg List.length hxs
      simp only [List.length_append] at this
      omega
    have hfit2 : a * ty.nc + b + xv.length ≤ cur.size := by omega
    have hlies : Lies hd S1 i q := ⟨⟨_, hm⟩, by rw [hb]; rfl⟩
    -- the new row
    have hcur : cur.toList = xs ++ cur.toList.drop (l.length * ty.nc) := by
      conv => lhs; rw [← List.take_append_drop (l.length * ty.nc) cur.toList, htake]
    have hnewrow : cur.toList.take (a * ty.nc + b) ++ xv ++ cur.toList.drop (a * ty.nc + b + xv.length) = (pre ++ (c.take b ++ xv ++ c.drop (b + xv.length)) ++ post) ++ cur.toList.drop (l.length * ty.nc) := by
      have t1 : cur.toList.take (a * ty.nc + b) = pre ++ c.take b := by
        rw [hcur, hxs, ← hpre, List.append_assoc, List.append_assoc, List.take_append, List.take_of_length_le (by omega : pre.length ≤ pre.length + b), Nat.add_sub_cancel_left, List.take_append_of_le_length (by omega)]
      have t2 : cur.toList.drop (a * ty.nc + b + xv.length) = c.drop (b + xv.length) ++ post ++ cur.toList.drop (l.length * ty.nc) := by
        conv => lhs; rw [hcur, hxs]
        rw [← hpre, List.append_assoc, List.append_assoc, Nat.add_assoc, List.drop_append, List.drop_eq_nil_of_le (by omega : pre.length ≤ pre.length + (b + xv.length)), List.nil_append, Nat.add_sub_cancel_left,
          List.drop_append_of_le_length (by omega), List.append_assoc]
      rw [t1, t2]
      simp [List.append_assoc]
    obtain ⟨I', _⟩ := I1.set (w' := w.setRow q (cur.toList.take (a * ty.nc + b) ++ xv ++ cur.toList.drop (a * ty.nc + b + xv.length)).toArray) i (.arr e ty (l.set a d')) (on_setRow _ _ _)
      (fun b' _ hnl => setRow_other w q b' _ (fun e => hnl (e ▸ hlies)))
      (fun kk => by
        refine ⟨pre ++ (c.take b ++ xv ++ c.drop (b + xv.length)) ++ post, ?_, rows.mono (ty.cells_keep kk) (hset _ _ hd2)⟩
        have hl2 : (pre ++ (c.take b ++ xv ++ c.drop (b + xv.length)) ++ post).length = l.length * ty.nc := by
          simp only [List.length_append, List.length_take, List.length_drop]
          omega
        refine ⟨by rw [List.length_set]; exact hl2, .inr ⟨q, cc, _, by rw [hb, List.length_set], Nat.zero_le _, setRow_heap w q cur _ e (0, 0) hg, by rw [List.length_set]; exact hle, hcm, ?_, ?_⟩⟩
        · have : (cur.toList.take (a * ty.nc + b) ++ xv ++ cur.toList.drop (a * ty.nc + b + xv.length)).length = cur.size := by
            simp only [List.length_append, List.length_take, List.length_drop, Array.length_toList]
            omega
          rw [List.size_toArray, this, hcs]
        · rw [List.length_set]
          simp only [hnewrow]
          rw [← hl2]
          exact List.take_left' rfl)
    exact ⟨cur, hg, hfit2, I'⟩

/-- Cells are laid over what a pointer leads to: the memory behind, and the state. -/
theorem put_good (I : Inv C hd S tmps w) (hsub : Sub lk S) {sx : SV} {vx : Value} (hx : SVRel w (C.F hd S) hd sx vx) {vs : List SV} {xv : List Value} (hcells : all2 (SVRel w (C.F hd S) hd) vs xv) {κ : List Ef → Option R} {r : R}
    (h : putCells lk sx vs κ = some r) : ∃ b o cur e, vx = .pointer (some ⟨b, o, none⟩) ∧ w.heap[b]? = some (.cells cur e (0, 0)) ∧ o + xv.length ≤ cur.size ∧
      ∃ hd' es, κ es = some r ∧ Inv C hd' (apps es S) tmps (w.setRow b (cur.toList.take o ++ xv ++ cur.toList.drop (o + xv.length)).toArray) := by
  unfold putCells at h
  split at h
  · rename_i i o
    obtain ⟨b, hb, rfl⟩ := hx
    split at h
    · rename_i cells hlk
      split at h
      · rename_i cells' hov
        obtain ⟨b', cur, e, hv', hcur, hlc⟩ := I.objs _ (look_mem (hsub _ _ hlk))
        simp only [hb, Value.pointer.injEq, Option.some.injEq, Addr.mk.injEq, and_true] at hv'
        subst hv'
        obtain ⟨hnew, hfit⟩ := overlay_ok hov hlc hcells
        have hlies : Lies hd S i b := ⟨⟨_, look_mem (hsub _ _ hlk)⟩, by rw [hb]; rfl⟩
        obtain ⟨I', _⟩ := I.set (w' := w.setRow b (cur.toList.take o ++ xv ++ cur.toList.drop (o + xv.length)).toArray) i (.box cells') (on_setRow _ _ _)
          (fun b' _ hnl => setRow_other w b b' _ (fun e => hnl (e ▸ hlies)))
          (fun kk => ⟨b, _, e, hb, setRow_heap w b cur _ e (0, 0) hcur, all2.mono (fun a x hax => SVRel.keep kk (fun _ _ => rfl) hax) (by simpa using hnew)⟩)
        exact ⟨b, o, cur, e, rfl, hcur, by simpa using hfit, hd, [.set i (.box cells')], h, I'⟩
      · cases h
    · cases h
  · rename_i i n a b
    obtain ⟨q, L, cc, hb, rfl⟩ := hx
    split at h
    · rename_i vs' es0 hfz
      obtain ⟨I1, hvs', _, hkeep⟩ := freezeAll_ok i rfl I (Has.of hsub) hcells hfz
      split at h
      · rename_i e ty l hlk
        have hm := hkeep _ _ _ hlk
        obtain ⟨hn, h2⟩ := bif_some h
        clear h
        have hn := Nat.eq_of_beq_eq_true hn
        subst hn
        rw [Option.bind_eq_some_iff] at h2
        obtain ⟨d, hd', h⟩ := h2
        split at h
        · rename_i cells' hov
          split at h
          · rename_i d' hdec
            obtain ⟨cur, hg, hfit, I'⟩ := put_elem I1 hm hb hvs' hd' hov hdec
            exact ⟨q, _, cur, e, rfl, hg, hfit, hd, _, h, by rw [apps_append]; exact I'⟩
          · cases h
        · cases h
      · cases h
    · cases h
  · cases h
theorem store_good (I : Inv C hd S tmps w) (hsub : Sub lk S) {t : TypeId} {sx sv : SS} {vx vv : Value} (hx : SSRel w (C.F hd S) hd sx vx) (hv : SSRel w (C.F hd S) hd sv vv) {κ : List Ef → Option R} {r : R}
    (h : store C.P lk t sx sv κ = some r) : GoodU C S tmps κ r ((Instr.storeAt t vx vv).run C.P w) := by
  unfold store at h
  split at h
  · cases h
  · rename_i vs hvs
    obtain ⟨hc, h0⟩ := bif_some h
    clear h
    have h := h0
    clear h0
    simp only [Bool.and_eq_true] at hc
    obtain ⟨⟨hc0, hc1⟩, hc2⟩ := hc
    have hlen := Nat.eq_of_beq_eq_true hc1
    have hcells := cells_of_ss hv hvs hc2
    have hone := all2_solids hcells hc2
    have hsz := cellsOf_pos (w := w) hc0
    have hvl : vv.cells.size = C.P.cellsOf t := by
      have := hcells.len
      rw [hlen] at this
      simpa using this.symm
    -- the store itself
    have hrun : ∀ (b o : Nat) (cur : Array Value) (e : TypeId), w.heap[b]? = some (.cells cur e (0, 0)) → o + vv.cells.toList.length ≤ cur.size →
        (Instr.storeAt t (.pointer (some ⟨b, o, none⟩)) vv).run C.P w = .ok () (w.setRow b (cur.toList.take o ++ vv.cells.toList ++ cur.toList.drop (o + vv.cells.toList.length)).toArray) := by
      intro b o cur e hg hfit
      have := run_storeCells_at C.P b o e vv.cells.toList 0 cur w hg (by simpa using hfit) hone
      simp only [Nat.add_zero] at this
      simp only [Instr.storeAt, Instr.sureAddr, Sem.run_bind, Sem.run_pure, Result.andThen_ok, storeVar, hsz, hvl, ne_eq, not_true_eq_false, if_false, this]
    split at h
    · rename_i x
      obtain ⟨b, o, cur, e, rfl, hg, hfit, hd', es, hk, I'⟩ := put_good I hsub (sx := x) hx hcells h
      exact ⟨_, hd', es, hrun b o cur e hg hfit, hk, I'⟩
    · cases h

end
end Go.Sh
