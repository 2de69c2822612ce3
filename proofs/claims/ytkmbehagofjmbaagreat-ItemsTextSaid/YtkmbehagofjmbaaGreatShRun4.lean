/-
  The shadow evaluator's operations are right, V: make, append, copy, conversions, slices, addresses, parts. No project text.
-/
import Derived.Test.YtkmbehagofjmbaaGreatShRun3
namespace Go.Sh

section
variable {R : Type} {C : Ctx} {hd : Nat → Value} {S : St} {lk : Lk} {tmps : Array Value} {w : World}

theorem tyIn_nc {P : Program} {t : TypeId} {ty : Ty} (h : tyIn P t = some ty) : ∃ i, P.info? t = some i ∧ ty.nc = i.size ∧ P.cellsOf t = i.size ∧ P.bytesOf t = i.bytes := by
  unfold tyIn at h
  split at h
  · rename_i ty' i _ hi
    obtain ⟨hb, h⟩ := bif_some h
    simp only [Option.some.injEq] at h
    subst h
    exact ⟨i, hi, Nat.eq_of_beq_eq_true hb, by simp [Program.cellsOf, hi], by simp [Program.bytesOf, hi]⟩
  · cases h

theorem getInt_ok {s : SS} {v : Value} {F : Nat → Prop} {κ : Int → Option R} {r : R} (h : getInt s κ = some r) (hs : SSRel w F hd s v) : ∃ k n, v = .int k n ∧ κ n = some r := by
  unfold getInt at h
  split at h
  · cases hs; exact ⟨_, _, rfl, h⟩
  · cases h

theorem makeSlice_good (I : Inv C hd S tmps w) {t d : Nat} {sl sc : SS} {vl vc : Value} (hl : SSRel w (C.F hd S) hd sl vl) (hc : SSRel w (C.F hd S) hd sc vc) {κ : SS → List Ef → Option R} {r : R}
    (h : makeSlice C.P d t sl sc κ = some r) : Good C S tmps κ r ((Instr.makeSlice t vl vc).run C.P w) := by
  unfold makeSlice at h
  split at h
  · rename_i e hu
    split at h
    · rename_i ty z hty hz
      split at h
      · rename_i zd hzd
        obtain ⟨kl, n, rfl, h1⟩ := getInt_ok h hl
        obtain ⟨kc, c, rfl, h2⟩ := getInt_ok h1 hc
        obtain ⟨hb, h3⟩ := bif_some h2
        simp only [Bool.and_eq_true, decide_eq_true_eq] at hb
        obtain ⟨⟨⟨h0, hnc⟩, hby⟩, h63⟩ := hb
        obtain ⟨i, zv, hi, hzv, rfl, hzs⟩ := zeroCells_ok hz
        obtain ⟨i', hi', hn, _, hbo⟩ := tyIn_nc hty
        rw [hi] at hi'
        simp only [Option.some.injEq] at hi'
        subst hi'
        rw [hbo] at hby
        have hrun := run_make (P := C.P) w t e i zv hu hi hzv kl kc n c h0 hnc hby h63
        have hzc := decAll_ok hzd (all2_ofCells w (C.F hd S) hd zv.cells.toList)
        have hcells : (madeCells zv.cells (c.toNat * i.size)).toList = (List.replicate c.toNat zv.cells.toList).flatten := by
          unfold madeCells; rw [hzs]; exact range_mod zv.cells i.size hzs c.toNat
        have hle : n.toNat ≤ c.toNat := by omega
        have htake : (madeCells zv.cells (c.toNat * i.size)).toList.take (n.toNat * i.size) = (List.replicate n.toNat zv.cells.toList).flatten := by
          have hsum : List.replicate c.toNat zv.cells.toList = List.replicate n.toNat zv.cells.toList ++ List.replicate (c.toNat - n.toNat) zv.cells.toList := by
            rw [List.replicate_append_replicate]; congr 1; omega
          rw [hcells, hsum, List.flatten_append]
          have hl : (List.replicate n.toNat zv.cells.toList).flatten.length = n.toNat * i.size := by simp [hzs]
          rw [← hl]
          exact List.take_left' rfl
        obtain ⟨hd', I', hs⟩ := new_arr (w' := w.alloc (.cells (madeCells zv.cells (c.toNat * i.size)) e)) I d e ty (List.replicate n.toNat zd) (.slice (some ⟨w.heap.size, 0, none⟩) n.toNat c.toNat) (List.replicate n.toNat zv.cells.toList).flatten (on_alloc _ _)
          (fun b hb => by simp [blk] at hb; exact .inl (by omega)) (fun b hb _ => RowKit.Below.heap_alloc w _ b hb)
          (by rw [List.length_replicate, hn]
              refine ⟨by simp [hzs], .inr ⟨w.heap.size, c.toNat, _, rfl, Nat.zero_le _, heap_alloc_new w _, hle, by simp only [maxLen]; omega, size_madeCells _ _, htake⟩⟩)
          (fun F' k => rows.mono (ty.cells_keep k) (rows.replicate hzc n.toNat))
        exact ⟨_, _, hd', _, _, hrun, h3, I', hs⟩
      · cases h
    · cases h
  · cases h

/-- A slice over an array that lies in memory of the call's own: where, and what it holds. -/
theorem part_ok (I : Inv C hd S tmps w) (hsub : Sub lk S) {t : Ty} {sv : SV} {l : List t.den} {x : Value} (hv : (∃ i off n u, sv = .bs i off n u) ∨ ∃ i n a j m u, sv = .es i n a j m u) (h : listOf lk t sv = some l)
    (hx : SVRel w (C.F hd S) hd sv x) : ∃ i o b off xs, (i, o) ∈ S.objs ∧ sv.ref = some i ∧ blk (hd i) = some b ∧ x = .slice (some ⟨b, off, none⟩) l.length l.length ∧ rows (t.cells w (C.F hd S)) l xs ∧
      ∀ j c, xs[j]? = some c → w.cell? ⟨b, off + j, none⟩ = some c := by
  rcases hv with ⟨i, off, n, u, rfl⟩ | ⟨i, n, a, j, m, u, rfl⟩
  · simp only [listOf] at h
    split at h
    · rename_i cells hlk
      rw [Option.bind_eq_some_iff] at h
      obtain ⟨l0, h1, h2⟩ := h
      obtain ⟨rfl, he⟩ := castL_eq h2
      simp only at he
      subst he
      obtain ⟨b, hb, rfl⟩ := hx
      obtain ⟨b', cur, e, hv', hcur, hl⟩ := I.objs _ (look_mem (hsub _ _ hlk))
      simp only [hb, Value.pointer.injEq, Option.some.injEq, Addr.mk.injEq, and_true] at hv'
      subst hv'
      obtain ⟨hlen, xs, rr, hxs, hr⟩ := decMany_ok u n _ l0 _ h1 (hl.drop off)
      refine ⟨i, _, b, off, xs, look_mem (hsub _ _ hlk), rfl, by rw [hb]; rfl, by rw [hlen], hr, fun k c hk => ?_⟩
      refine row_cells hcur off k c ?_
      rw [hxs, List.getElem?_append]
      have hlt : k < xs.length := by
        rcases Nat.lt_or_ge k xs.length with h | h
        · exact h
        · rw [List.getElem?_eq_none h] at hk; cases hk
      rw [if_pos hlt]; exact hk
    · cases h
  · simp only [listOf] at h
    split at h
    · rename_i e ty l0 hlk
      obtain ⟨hn, h0⟩ := bif_some h
      clear h
      have hn := Nat.eq_of_beq_eq_true hn
      subst hn
      rw [Option.bind_eq_some_iff] at h0
      obtain ⟨d, hd', h1⟩ := h0
      rw [Option.bind_eq_some_iff] at h1
      obtain ⟨l1, h2, h3⟩ := h1
      obtain ⟨rfl, he⟩ := castL_eq h3
      simp only at he
      subst he
      obtain ⟨b, L, cc, hb, rfl⟩ := hx
      obtain ⟨ys, ho, hr⟩ := I.objs _ (look_mem (hsub _ _ hlk))
      simp only at ho hr
      obtain ⟨pre, c, post, hys, hpre, hRc, _⟩ := rows.at ty.cells_len a d hr hd'
      obtain ⟨hlen, xs, rr, hxs, hr2⟩ := decMany_ok u m _ l1 _ h2 ((enc_ok (hd := hd) ty d c hRc).drop j)
      refine ⟨i, _, b, a * ty.nc + j, xs, look_mem (hsub _ _ hlk), rfl, by rw [hb]; rfl, by rw [hlen], hr2, fun k v hk => ?_⟩
      have hlt : k < xs.length := by
        rcases Nat.lt_or_ge k xs.length with h | h
        · exact h
        · rw [List.getElem?_eq_none h] at hk; cases hk
      have e1 : c[j + k]? = some v := by
        have := congrArg (·[k]?) hxs
        simp only [List.getElem?_drop] at this
        rw [this, List.getElem?_append, if_pos hlt]; exact hk
      have hc2 : j + k < c.length := by
        rcases Nat.lt_or_ge (j + k) c.length with h | h
        · exact h
        · rw [List.getElem?_eq_none h] at e1; cases e1
      have e2 : ys[a * ty.nc + (j + k)]? = some v := by
        rw [hys, ← hpre, List.append_assoc, List.getElem?_append, if_neg (by omega), Nat.add_sub_cancel_left, List.getElem?_append, if_pos hc2]
        exact e1
      have := ho.cells (g := b) (by rw [hb]; rfl) _ v e2
      rwa [addr_add, Nat.zero_add, ← Nat.add_assoc] at this
    · cases h

/-- What a list that is read looks like. -/
theorem source_ok (I : Inv C hd S tmps w) (hsub : Sub lk S) {ty : Ty} {sv : SV} {x : Value} {m : List ty.den} (h : listOf lk ty sv = some m) (hx : SVRel w (C.F hd S) hd sv x) :
    (x = .slice none 0 0 ∧ m = []) ∨ ∃ a cap ys, x = .slice (some a) m.length cap ∧ m.length ≤ cap ∧ rows (ty.cells w (C.F hd S)) m ys ∧ (∀ j u, ys[j]? = some u → w.cell? (a.add j) = some u) := by
  cases sv with
  | «at» v =>
    unfold listOf at h
    split at h
    · rename_i e; cases e
    · rename_i e; cases e
    · rename_i e; cases e
    · rename_i e
      cases e
      simp only [Option.some.injEq] at h
      subst h
      cases hx
      exact .inl ⟨rfl, rfl⟩
    · rename_i e; cases e
    · rename_i e; cases e
    · cases h
  | fz t l =>
    have hs := castL_rel h hx
    rcases hs with ⟨⟨q, rfl⟩, rfl⟩ | ⟨b, off, cap, xs, rfl, hle, hr, hc, _⟩
    · cases q with
      | none => exact .inl ⟨rfl, rfl⟩
      | some a => exact .inr ⟨a, 0, [], rfl, Nat.le_refl _, rfl, by simp⟩
    · exact .inr ⟨⟨b, off, none⟩, cap, xs, rfl, hle, hr, fun j u hj => by rw [addr_add]; exact hc j u hj⟩
  | own i =>
    simp only [listOf] at h
    split at h
    · rename_i e t l hlk
      obtain ⟨rfl, he⟩ := castL_eq h
      simp only at he
      subst he
      obtain ⟨hxe, _⟩ := hx
      subst hxe
      obtain ⟨xs, ho, hr⟩ := I.objs _ (look_mem (hsub _ _ hlk))
      simp only at ho hr
      rcases ho.2 with ⟨h1, h2⟩ | ⟨g, cap, cur, h1, _, _, hle, _⟩
      · exact .inl ⟨h1, List.eq_nil_of_length_eq_zero h2⟩
      · exact .inr ⟨⟨g, 0, none⟩, cap, xs, h1, hle, hr, ho.cells (by rw [h1]; rfl)⟩
    · cases h
  | vw i n off len =>
    simp only [listOf] at h
    split at h
    · rename_i e t l hlk
      obtain ⟨hn, h1⟩ := bif_some h
      clear h
      have hn := Nat.eq_of_beq_eq_true hn
      split at h1
      · rename_i m' hm'
        obtain ⟨rfl, he⟩ := castL_eq hm'
        simp only at he
        subst he
        simp only [Option.some.injEq] at h1
        subst h1
        rw [hn] at hx
        -- as a frozen list in which nothing is forbidden
        have hs : sliceRel (t.cells w (C.F hd S)) w (fun _ => False) ((l.drop off).take len) x := by
          obtain ⟨xs, ho, hr⟩ := I.objs _ (look_mem (hsub _ _ hlk))
          rcases hx with ⟨_, rfl, rfl, rfl⟩ | ⟨b, o, L, C', cap, hb, rfl, hle, hoL, hoff, _⟩
          · exact .inl ⟨⟨_, rfl⟩, by simp⟩
          · have hL : L = l.length := by
              rcases ho.2 with ⟨h1, _⟩ | ⟨g, cap', cur, h1, _⟩
              · simp only at h1; rw [hb] at h1; cases h1
              · simp only at h1; rw [hb] at h1; simp only [Value.slice.injEq] at h1; exact h1.2.1
            have hlen : ((l.drop off).take len).length = len := by rw [List.length_take, List.length_drop]; omega
            rcases hoff with rfl | rfl
            · refine .inr ⟨b, off * t.nc, cap, _, by rw [hlen], by rw [hlen]; exact hle, rows.take t.cells_len len (rows.drop t.cells_len off hr), ?_, .inr (by simp)⟩
              intro j c hj
              rw [List.getElem?_take] at hj
              split at hj
              · rw [List.getElem?_drop] at hj
                have := ho.cells (g := b) (by simp only; rw [hb]; rfl) _ c hj
                rwa [addr_add, Nat.zero_add] at this
              · cases hj
            · exact .inr ⟨b, o, cap, [], by simp, by simp, by simp [rows], by simp, .inl rfl⟩
        rcases hs with ⟨⟨q, h1⟩, h2⟩ | ⟨b, off', cap, xs, h1, hle, hr, hc, _⟩
        · cases q with
          | none => exact .inl ⟨h1, h2⟩
          | some a => rw [h2]; exact .inr ⟨a, 0, [], h1, Nat.le_refl _, rfl, by simp⟩
        · exact .inr ⟨⟨b, off', none⟩, cap, xs, h1, hle, hr, fun j u hj => by rw [addr_add]; exact hc j u hj⟩
      · cases h1
    · cases h
  | ptr i o => simp [listOf] at h
  | ep i n a j => simp [listOf] at h
  | bs i off n u =>
    obtain ⟨_, _, b, off', xs, _, _, _, h1, hr, hc⟩ := part_ok I hsub (.inl ⟨_, _, _, _, rfl⟩) h hx
    exact .inr ⟨⟨b, off', none⟩, _, xs, h1, Nat.le_refl _, hr, fun j u hj => by rw [addr_add]; exact hc j u hj⟩
  | es i n a j m u =>
    obtain ⟨_, _, b, off', xs, _, _, _, h1, hr, hc⟩ := part_ok I hsub (.inr ⟨_, _, _, _, _, _, rfl⟩) h hx
    exact .inr ⟨⟨b, off', none⟩, _, xs, h1, Nat.le_refl _, hr, fun j u hj => by rw [addr_add]; exact hc j u hj⟩
  | fp t d j => simp [listOf] at h
  | dead => simp [listOf] at h

theorem append_good (I : Inv C hd S tmps w) (hsub : Sub lk S) {t ty' d : Nat} {sx sy : SS} {vx vy : Value} (hx : SSRel w (C.F hd S) hd sx vx) (hy : SSRel w (C.F hd S) hd sy vy) {κ : SS → List Ef → Option R} {r : R}
    (h : append C.P lk d t sx sy κ = some r) : Good C S tmps κ r ((Builtin.append_ #[t, t] ty' #[vx, vy]).run C.P w) := by
  unfold append at h
  split at h
  · rename_i e x y hu
    split at h
    · rename_i ty hty
      split at h
      · rename_i l m hlx hly
        obtain ⟨hb, h1⟩ := bif_some h
        clear h
        simp only [Bool.and_eq_true, decide_eq_true_eq] at hb
        obtain ⟨⟨⟨hb1, hz0⟩, hby⟩, h63⟩ := hb
        have hpos := Nat.le_of_ble_eq_true hb1
        obtain ⟨i, hi, hn, _, hbo⟩ := tyIn_nc hty
        rw [hbo] at hby
        -- the zero value
        obtain ⟨zv, hzv, hzs⟩ : ∃ zv, i.zero = some zv ∧ zv.cells.size = i.size := by
          obtain ⟨z, hz⟩ := Option.isSome_iff_exists.1 hz0
          obtain ⟨i', zv, hi', hzv, _, hzs⟩ := zeroCells_ok hz
          rw [hi] at hi'; simp only [Option.some.injEq] at hi'; subst hi'
          exact ⟨zv, hzv, hzs⟩
        have key : ∀ (id : Nat) (v : Value) (n : Nat) (xs : List Value), w.ownsRow 0 e ty.nc v n xs → n = l.length → rows (ty.cells w (C.F hd S)) l xs → vx = v → (∀ b, blk v = some b → Lies hd S id b) →
            κ (.one (.own id)) [.renew id (.arr e ty (l ++ m))] = some r → Good C S tmps κ r ((Builtin.append_ #[t, t] ty' #[vx, vy]).run C.P w) := by
          intro id v n xs ho hnl hr hv hlies hk
          subst hv
          rcases source_ok I hsub hly hy with ⟨rfl, rfl⟩ | ⟨a, cap, ys, rfl, _, hry, hcy⟩
          · have hrun := run_append_owned_none (P := C.P) w 0 t ty' e i ty.nc hu hi vx n xs ho
            obtain ⟨hd', I', hs⟩ := new_arr (w' := w) I id e ty (l ++ []) vx xs (On.refl w) (fun b hb => .inr (hlies b hb)) (fun _ _ _ => rfl)
              (by rw [List.append_nil, ← hnl]; exact ho) (fun F' k => by rw [List.append_nil]; exact rows.mono (ty.cells_keep k) hr)
            exact ⟨_, _, hd', _, _, hrun, hk, I', hs⟩
          · obtain ⟨v', w', hrun, ho', hg, hnil⟩ := run_append_own (P := C.P) w 0 t ty' e i zv ty.nc i.bytes hu hi hzv hn.symm rfl (by rw [hzs, hn]) hpos vx n xs ho a m.length cap ys
              (hry.len ty.cells_len) hcy (rows.one ty.cells_one hry) (by rw [hnl]; simp only [maxLen]; omega) (by rw [hnl]; exact hby) (Nat.zero_le _)
            have hown : ∀ b, vx.ownBlock = some b → blk vx = some b := by
              intro b hb
              cases vx <;> simp [Value.ownBlock, blk] at hb ⊢
              rename_i a _ _
              cases a <;> simp_all
            have hblk : ∀ b, blk v' = some b → w.heap.size ≤ b ∨ Lies hd S id b := by
              intro b hb
              have hml := hry.len ty.cells_len
              rcases ho.2 with ⟨rfl, rfl⟩ | ⟨g, cap', cur, rfl, _, hg', hle', _⟩
              · by_cases hm : m.length = 0
                · have hv' := hnil.2 ⟨rfl, hm⟩
                  rw [hv'] at hb; simp [blk] at hb
                · have h2 := run_append_nil (P := C.P) w t ty' e i zv hu hi hzv a m.length cap ys (by rw [hml, hn]) hcy (by omega) (by omega) (by
                    have : m.length * i.bytes ≤ (l.length + m.length) * i.bytes := Nat.mul_le_mul_right _ (by omega)
                    omega)
                  rw [hrun] at h2
                  simp only [Result.ok.injEq] at h2
                  rw [h2.1] at hb
                  simp only [blk, Option.some.injEq] at hb
                  exact .inl (by omega)
              · by_cases hroom : n + m.length ≤ cap'
                · obtain ⟨w2, h2, _⟩ := run_append_fits (P := C.P) w 0 t ty' e i ty.nc hu hi hn.symm g n cap' xs ho a m.length cap ys hml hcy (rows.one ty.cells_one hry) hroom
                  rw [hrun] at h2
                  simp only [Result.ok.injEq] at h2
                  rw [h2.1] at hb
                  exact .inr (hlies b hb)
                · have h2 := run_append_grow (P := C.P) w t ty' e i zv hu hi hzv ⟨g, 0, none⟩ n cap' xs (by rw [ho.1, hn]) (ho.cells rfl) a m.length cap ys (by rw [hml, hn]) hcy (by omega) (by omega)
                    (growslice_fits (by omega) (by rw [hnl]; exact hby))
                  rw [hrun] at h2
                  simp only [Result.ok.injEq] at h2
                  rw [h2.1] at hb
                  simp only [blk, Option.some.injEq] at hb
                  exact .inl (by omega)
            obtain ⟨hd', I', hs⟩ := new_arr (w' := w') I id e ty (l ++ m) v' (xs ++ ys) (On.grown hg) hblk
              (fun b hb hnl => hg.block b hb (fun e => hnl (hlies b (hown b e.symm))))
              (by rw [List.length_append, ← hnl]; exact ho')
              (fun F' k => rows.app (rows.mono (ty.cells_keep k) hr) (rows.mono (ty.cells_keep k) hry))
            exact ⟨_, _, hd', _, _, hrun, hk, I', hs⟩
        split at h1
        · rename_i id
          simp only [listOf] at hlx
          split at hlx
          · rename_i e' t' l' hlk
            obtain ⟨rfl, he⟩ := castL_eq hlx
            simp only at he
            subst he
            obtain ⟨xs, ho, hr⟩ := I.objs _ (look_mem (hsub _ _ hlk))
            simp only at ho hr
            obtain ⟨he, h1⟩ := bif_some h1
            simp only [elemIs, hlk] at he
            have he := Nat.eq_of_beq_eq_true he
            subst he
            exact key id (hd id) _ xs ho rfl hr hx.1 (fun b hb => ⟨⟨_, look_mem (hsub _ _ hlk)⟩, hb⟩) h1
          · cases hlx
        · rename_i id n' off len
          split at h1
          · simp only [listOf] at hlx
            split at hlx
            · rename_i e' t' l' hlk
              obtain ⟨hn', hlx1⟩ := bif_some hlx
              split at hlx1
              · rename_i m' hm'
                obtain ⟨rfl, he⟩ := castL_eq hm'
                simp only at he
                subst he
                simp only [Option.some.injEq, List.drop_zero] at hlx1
                subst hlx1
                obtain ⟨he, h1⟩ := bif_some h1
                simp only [elemIs, hlk] at he
                have he := Nat.eq_of_beq_eq_true he
                subst he
                obtain ⟨xs, ho, hr⟩ := I.objs _ (look_mem (hsub _ _ hlk))
                simp only at ho hr
                rcases hx with ⟨h2, rfl, _, rfl⟩ | ⟨b, o, L, C', cap, h2, rfl, hle, hoL, _, h0⟩
                · exact key id (.slice none 0 0) 0 [] (World.ownsRow_nil _ _ _ _) (by simp) (by simp [rows]) rfl (fun b hb => by simp [blk] at hb) h1
                · obtain ⟨rfl, rfl⟩ := h0 rfl
                  rcases ho.2 with ⟨h3, _⟩ | ⟨g, cap', cur, h3, h4, h5, h6, h7, h8, h9⟩
                  · rw [h2] at h3; cases h3
                  · rw [h2] at h3
                    simp only [Value.slice.injEq, Option.some.injEq, Addr.mk.injEq, and_true] at h3
                    obtain ⟨rfl, rfl, rfl⟩ := h3
                    have hlen : (l'.take len).length = len := by rw [List.length_take]; omega
                    refine key id _ len (xs.take (len * t'.nc)) ⟨?_, .inr ⟨b, cap, cur, rfl, h4, h5, hle, h7, h8, ?_⟩⟩ hlen.symm (rows.take t'.cells_len len hr) rfl (fun b' hb' => ⟨⟨_, look_mem (hsub _ _ hlk)⟩, by rw [h2]; exact hb'⟩) h1
                    · rw [List.length_take, ho.1]
                      exact Nat.min_eq_left (Nat.mul_le_mul_right _ (by omega))
                    · rw [← h9, List.take_take]
                      congr 1
                      exact (Nat.min_eq_left (Nat.mul_le_mul_right _ (by omega))).symm
              · cases hlx1
            · cases hlx
          · cases h1
        · simp only [listOf, Option.some.injEq] at hlx
          subst hlx
          refine key d (.slice none 0 0) 0 [] (World.ownsRow_nil _ _ _ _) rfl rfl hx (fun b hb => by simp [blk] at hb) (by simpa using h1)
        · cases h1
      · cases h
    · cases h
  · cases h

theorem len_ok (I : Inv C hd S tmps w) (hsub : Sub lk S) {sv : SV} {x : Value} {n : Int} (h : lenOf lk sv = some n) (hx : SVRel w (C.F hd S) hd sv x) :
    ∃ a l c, x = .slice a l c ∧ n = l := by
  cases sv with
  | «at» v =>
    unfold lenOf at h
    split at h
    · rename_i e; cases e
    · rename_i e; cases e
    · rename_i e; cases e
    · rename_i e; cases e
    · rename_i e; cases e
    · rename_i e; cases e; cases hx; simp only [Option.some.injEq] at h; exact ⟨_, _, _, rfl, by simpa using h.symm⟩
    · cases h
  | fz t l =>
    simp only [lenOf, Option.some.injEq] at h
    rcases hx with ⟨⟨q, rfl⟩, rfl⟩ | ⟨b, off, cap, xs, rfl, _⟩
    · exact ⟨_, _, _, rfl, by simpa using h.symm⟩
    · exact ⟨_, _, _, rfl, h.symm⟩
  | own i =>
    simp only [lenOf] at h
    split at h
    · rename_i e t l hlk
      simp only [Option.some.injEq] at h
      obtain ⟨hx, _⟩ := hx
      subst hx
      obtain ⟨xs, ho, _⟩ := I.objs _ (look_mem (hsub _ _ hlk))
      simp only at ho
      rcases ho.2 with ⟨h1, h2⟩ | ⟨g, cap, cur, h1, _⟩
      · exact ⟨_, _, _, h1, by rw [← h, h2]⟩
      · exact ⟨_, _, _, h1, h.symm⟩
    · cases h
  | vw i n' off len =>
    simp only [lenOf, Option.some.injEq] at h
    rcases hx with ⟨_, rfl, _, rfl⟩ | ⟨b, o, L, C', cap, _, rfl, _⟩
    · exact ⟨_, _, _, rfl, by simpa using h.symm⟩
    · exact ⟨_, _, _, rfl, h.symm⟩
  | ptr i o => simp [lenOf] at h
  | ep i n a j => simp [lenOf] at h
  | bs i off m u =>
    simp only [lenOf, Option.some.injEq] at h
    obtain ⟨b, _, rfl⟩ := hx
    exact ⟨_, _, _, rfl, h.symm⟩
  | es i k a j m u =>
    simp only [lenOf, Option.some.injEq] at h
    obtain ⟨b, L, cc, _, rfl⟩ := hx
    exact ⟨_, _, _, rfl, h.symm⟩
  | fp t d j => simp [lenOf] at h
  | dead => simp [lenOf] at h

theorem strOf_eq (l : List Int) : l.foldl (fun r n => r.push (UInt8.ofNat n.toNat)) ByteArray.empty = strOf l := by
  have key : ∀ (l : List Int) (s : ByteArray), (l.foldl (fun r n => r.push (UInt8.ofNat n.toNat)) s).data.toList = s.data.toList ++ l.map byteOf := by
    intro l
    induction l with
    | nil => intro s; simp
    | cons n l ih => intro s; simp only [List.foldl_cons, List.map_cons]; rw [ih]; simp [ByteArray.push, byteOf]
  have h := key l ByteArray.empty
  apply ByteArray.ext
  apply Array.toList_inj.1
  rw [h]
  simp [strOf]

theorem rows_bytes {F : Nat → Prop} : ∀ {l : List Int} {ys : List Value}, rows ((Ty.int .u8).cells w F) l ys → ys = l.map (Value.int .u8)
  | [], _, h => by cases h; rfl
  | n :: l, _, ⟨c, r, h, hc, hl⟩ => by
    have := rows_bytes hl
    simp only [Ty.cells] at hc
    rw [h, hc, this, List.map_cons, List.singleton_append]

theorem convert_good (I : Inv C hd S tmps w) (hsub : Sub lk S) {s t : TypeId} {sx : SS} {vx : Value} (hx : SSRel w (C.F hd S) hd sx vx) {κ : SS → List Ef → Option R} {r : R} (h : convert C.P lk s t sx κ = some r) :
    Good C S tmps κ r ((Go.convert s t vx).run C.P w) := by
  unfold convert at h
  split at h
  · rename_i d k k' n hs ht
    cases hx
    refine Good.pure I ?_ h (rfl : _ = _)
    cases d <;> simp [Go.convert, run_underlying hs, run_underlying ht, Conv.intToInt]
  · rename_i e x hs ht
    split at h
    · rename_i l hu hl
      refine Good.pure I (v := .string (strOf l)) ?_ h (rfl : _ = _)
      rcases source_ok I hsub hl hx with ⟨rfl, rfl⟩ | ⟨a, cap, ys, rfl, _, hr, hc⟩
      · rw [run_convert_bytes_string w s t e _ _ _ hs hu ht]; simp [Conv.bytesToString, strOf]; rfl
      · rw [run_convert_bytes_string w s t e _ _ _ hs hu ht]
        have e1 := rows_bytes hr
        have hlc := run_loadCells_list (P := C.P) w a ys hc
        rw [e1] at hlc
        simp only [List.length_map] at hlc
        rw [run_bytesToString w a _ cap l hlc, strOf_eq]
    · cases h
  · rename_i e e' i hs ht
    split at h
    · rename_i e1 ty l hu hb hlk
      split at h
      · cases h
      · rename_i x l
        have hst := Nat.eq_of_beq_eq_true hb
        subst hst
        rw [hs] at ht
        simp only [Option.some.injEq, TypeDesc.slice.injEq] at ht
        subst ht
        obtain ⟨hx, _⟩ := hx
        subst hx
        have hm := look_mem (hsub _ _ hlk)
        obtain ⟨xs, ho, hr⟩ := I.objs _ hm
        simp only at ho hr
        rcases ho.2 with ⟨_, h2⟩ | ⟨g, cap, cur, h1, _, hg, hle, _, _, htake⟩
        · cases h2
        · have hlies : Lies hd S i g := ⟨⟨_, hm⟩, by rw [h1]; rfl⟩
          have hsh : w.shape? g = some (e1, cur.size) := by simp only [World.shape?, hg]
          have hother : ∀ b, b ≠ g → (w.freeze ⟨g, cur.size, none⟩ 1).heap[b]? = w.heap[b]? := by
            intro b hne
            simp [World.freeze, Array.getElem?_modify, Ne.symm hne]
          obtain ⟨I', k'⟩ := I.dropAt (w' := w.freeze ⟨g, cur.size, none⟩ 1) i ⟨by simp [World.freeze], by simp [World.freeze], by simp [World.freeze], by simp [World.freeze]⟩
            (fun b _ hnl => hother b fun e => hnl (e ▸ hlies))
          have hcell : ∀ j, (w.freeze ⟨g, cur.size, none⟩ 1).cell? ⟨g, j, none⟩ = w.cell? ⟨g, j, none⟩ := by
            intro j
            simp [World.freeze, World.cell?, Array.getElem?_modify, hg]
          refine ⟨hd i, _, hd, _, _, ?_, h, I', ?_⟩
          · rw [h1]
            simp only [Go.convert, Sem.run_bind, run_underlying hs, Result.andThen_ok, beq_self_eq_true, run_underlying hu, markStringish, run_shape, hsh, run_freeze, Sem.run_pure]
          · show sliceRel _ _ _ _ (hd i)
            rw [h1]
            refine .inr ⟨g, 0, cap, xs, rfl, hle, rows.mono (ty.cells_keep k') hr, ?_, .inr ?_⟩
            · intro j c hj
              rw [Nat.zero_add, hcell]
              have := ho.cells (g := g) (by rw [h1]; rfl) j c hj
              rwa [addr_add, Nat.zero_add] at this
            · exact not_F_dropped I hm g (by rw [h1]; rfl)
    · cases h
  · cases h

theorem extract_good (I : Inv C hd S tmps w) {sx : SS} {vx : Value} (hx : SSRel w (C.F hd S) hd sx vx) {i : Nat} {κ : SS → List Ef → Option R} {r : R} (h : extract sx i (fun v => κ v []) = some r) :
    Good C S tmps κ r ((Instr.extract vx i).run C.P w) := by
  unfold extract at h
  split at h
  · rename_i l
    split at h
    · rename_i c hc
      obtain ⟨vs, rfl, hl⟩ := hx
      have hlen := hl.len
      have hi : i < vs.toList.length := by
        rw [← hlen]
        rcases Nat.lt_or_ge i l.length with h | h
        · exact h
        · rw [List.getElem?_eq_none h] at hc; cases hc
      have hv : vs.toList[i]? = some vs.toList[i] := List.getElem?_eq_getElem hi
      have hv' : vs[i]? = some vs.toList[i] := by rw [← hv]; simp
      exact Good.pure I (v := vs.toList[i]) (by simp [Instr.extract, hv']) h (hl.get i c _ hc hv)
    · cases h
  · cases h

theorem cut_val {F : Nat → Prop} {P : Program} {t : TypeId} {g : Bool} (hg : isAggT P t = some g) {l : List SV} {vs : Array Value} {o : Nat} (hl : all2 (SVRel w F hd) l vs.toList) {c : Cv} (hc : cut g (P.cellsOf t) (l.drop o) = some c) :
    ∃ v, (part t vs o).run P w = .ok v w ∧ CvRel w F hd c v := by
  unfold cut at hc
  split at hc
  · obtain ⟨hle, hc⟩ := bif_some hc
    have hle := Nat.le_of_ble_eq_true hle
    simp only [Option.some.injEq] at hc
    subst hc
    refine ⟨.agg (vs.extract o (o + P.cellsOf t)), ?_, ⟨_, rfl, ?_⟩⟩
    · simp only [part, Sem.run_bind, run_isAgg hg, Result.andThen_ok, if_true, run_sizeOf' hg, Sem.run_pure]
    · rw [Array.toList_extract, List.extract_eq_take_drop, Nat.add_sub_cancel_left]
      exact (hl.drop o).take _
  · split at hc
    · rename_i v0 r hn hd'
      simp only [Option.some.injEq] at hc
      subst hc
      have h1 := hl.drop o
      rw [hd'] at h1
      cases hv : vs.toList.drop o with
      | nil => rw [hv] at h1; exact h1.elim
      | cons v vr =>
        rw [hv] at h1
        have hv' : vs[o]? = some v := by
          have := congrArg (·[0]?) hv
          simpa [List.getElem?_drop] using this
        exact ⟨v, by simp [part, run_isAgg hg, hv'], h1.1⟩
    · cases hc

theorem field_good (I : Inv C hd S tmps w) {t : TypeId} {sx : SS} {vx : Value} (hx : SSRel w (C.F hd S) hd sx vx) {f : Nat} {κ : SS → List Ef → Option R} {r : R} (h : field C.P t sx f (fun v => κ v []) = some r) :
    Good C S tmps κ r ((Instr.field t vx f).run C.P w) := by
  unfold field at h
  split at h
  · rename_i fs l hu
    obtain ⟨cs, rfl, hl⟩ := hx
    split at h
    · rename_i fd hfd
      split at h
      · rename_i g hg
        split at h
        · rename_i c hc
          obtain ⟨v, hv, hcv⟩ := cut_val hg hl hc
          exact Good.pure I (by simp [Instr.field, run_underlying hu, hfd, asAgg, hv]) h hcv
        · cases h
      · cases h
    · cases h
  · cases h

theorem pickAt_ok {R : Type} {g : Bool} {m : Nat} {n : Int} {κ : SS → Option R} {r : R} (l0 : List SV) : ∀ (left k : Nat), pickAt g m n κ k left (l0.drop (k * m)) = some r →
    cutK g m (l0.drop (n.toNat * m)) κ = some r
  | 0, _, h => by cases h
  | left + 1, k, h => by
    simp only [pickAt] at h
    cases hd : decide (n = (k : Int)) with
    | true =>
      have e := of_decide_eq_true hd
      have e2 : n.toNat = k := by rw [e]; exact Int.toNat_natCast k
      rw [e2]
      simpa only [hd, cond_true] using h
    | false =>
      simp only [hd, cond_false, List.drop_drop] at h
      refine pickAt_ok l0 left (k + 1) ?_
      rw [Nat.add_mul, Nat.one_mul]
      exact h

theorem indexIn_ok {R : Type} {g : Bool} {m len : Nat} {n : Int} {l : List SV} {κ : SS → Option R} {r : R} (_h0 : 0 ≤ n) (h : indexIn g m n len l κ = some r) :
    cutK g m (l.drop (n.toNat * m)) κ = some r := by
  unfold indexIn at h
  split at h
  · exact h
  · exact pickAt_ok l len 0 (by simpa using h)

theorem index_good (I : Inv C hd S tmps w) {t : TypeId} {sx si : SS} {vx vi : Value} (hx : SSRel w (C.F hd S) hd sx vx) (hi : SSRel w (C.F hd S) hd si vi) {κ : SS → List Ef → Option R} {r : R}
    (h : index C.P t sx si (fun v => κ v []) = some r) : Good C S tmps κ r ((Instr.index t vx vi).run C.P w) := by
  unfold index at h
  split at h
  · rename_i len e l hu
    obtain ⟨cs, rfl, hl⟩ := hx
    obtain ⟨k, n, rfl, h1⟩ := getInt_ok h hi
    split at h1
    · rename_i g hg
      obtain ⟨hb, h2⟩ := bif_some h1
      simp only [Bool.and_eq_true, decide_eq_true_eq] at hb
      have h2 := indexIn_ok hb.1 h2
      unfold cutK at h2
      split at h2
      · rename_i c hc
        obtain ⟨v, hv, hcv⟩ := cut_val hg hl hc
        refine Good.pure I (v := v) ?_ h2 hcv
        simp [Instr.index, asIntOf, run_underlying hu, hb, run_sizeOf' hg, hv]
      · cases h2
    · cases h1
  · rename_i s hu
    have hx : vx = .string s := hx
    subst hx
    obtain ⟨k, n, rfl, h1⟩ := getInt_ok h hi
    split at h1
    · rename_i b hb
      obtain ⟨h0, hb⟩ := bif_some hb
      simp only [decide_eq_true_eq] at h0
      have hg : s[n.toNat]? = some b := by
        rw [Array.getElem?_toList] at hb
        obtain ⟨hlt, e⟩ := Array.getElem?_eq_some_iff.1 hb
        have hlt' : n.toNat < s.size := hlt
        rw [getElem?_pos s n.toNat hlt']
        exact congrArg some e
      refine Good.pure I (v := .int .u8 b.toNat) ?_ h1 rfl
      simp [Instr.index, asIntOf, run_underlying hu, h0, hg]
    · cases h1
  · cases h

theorem fieldAddr_good (I : Inv C hd S tmps w) {s : TypeId} {sx : SS} {vx : Value} (hx : SSRel w (C.F hd S) hd sx vx) {f : Nat} {κ : SS → List Ef → Option R} {r : R} (h : fieldAddr C.P s sx f (fun v => κ v []) = some r) :
    Good C S tmps κ r ((Instr.fieldAt s vx f).run C.P w) := by
  unfold fieldAddr at h
  split at h
  · rename_i fs hu
    split at h
    · rename_i fd hfd
      obtain ⟨hb, h1⟩ := bif_some' h
      clear h
      have hne : C.P.cellsOf fd.type ≠ 0 := by intro e; simp [e] at hb
      obtain ⟨i, hi⟩ : ∃ i, C.P.info? fd.type = some i := by
        cases hq : C.P.info? fd.type with
        | none => simp [Program.cellsOf, hq] at hne
        | some i => exact ⟨i, rfl⟩
      have hsz : (sizeOf fd.type).run C.P w = .ok (C.P.cellsOf fd.type) w := cellsOf_pos (by simp [hi])
      have hrun : ∀ a : Addr, (Instr.fieldAt s (.pointer (some a)) f).run C.P w = .ok (.pointer (some (a.add fd.offset))) w := by
        intro a
        simp [Instr.fieldAt, run_underlying hu, hfd, Instr.sureAddr, fieldPlace, hsz, hne]
      split at h1
      · obtain ⟨b, hb', rfl⟩ := hx
        exact Good.pure I (hrun _) h1 ⟨b, hb', by rw [addr_add]⟩
      · obtain ⟨b, L, cc, hb', rfl⟩ := hx
        exact Good.pure I (hrun _) h1 ⟨b, L, cc, hb', by rw [addr_add, Nat.add_assoc]⟩
      · obtain ⟨b, o, cs, rfl, hc, hm, hF⟩ := hx
        exact Good.pure I (hrun _) h1 ⟨b, o, cs, by rw [addr_add, Nat.add_assoc], hc, hm, hF⟩
      · cases h1
    · cases h
  · cases h

end
end Go.Sh
