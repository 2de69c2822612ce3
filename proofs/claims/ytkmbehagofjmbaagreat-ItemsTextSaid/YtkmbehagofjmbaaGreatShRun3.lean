/-
  The shadow evaluator's operations are right, IV: what makes memory, slices, addresses. No project text.
-/
import Derived.Test.YtkmbehagofjmbaaGreatShRun2
namespace Go.Sh

section
variable {R : Type} {C : Ctx} {hd : Nat → Value} {S : St} {lk : Lk} {tmps : Array Value} {w : World}

theorem zeroCells_ok {P : Program} {t : TypeId} {z : List SV} (h : zeroCells P t = some z) : ∃ i zv, P.info? t = some i ∧ i.zero = some zv ∧ z = ofCells zv.cells.toList ∧ zv.cells.size = i.size := by
  unfold zeroCells at h
  split at h
  · rename_i i hi
    split at h
    · rename_i zv hz
      obtain ⟨hb, h⟩ := bif_some h
      simp only [Option.some.injEq] at h
      exact ⟨i, zv, hi, hz, h.symm, Nat.eq_of_beq_eq_true hb⟩
    · cases h
  · cases h

/-- A new variable. -/
theorem new_box (I : Inv C hd S tmps w) (d : Nat) (cells : List SV) (cur : Array Value) (t : TypeId)
    (hrel : ∀ F', Keeps w (w.alloc (.cells cur t)) (C.F hd S) F' → all2 (SVRel (w.alloc (.cells cur t)) F' (upd hd d (.pointer (some ⟨w.heap.size, 0, none⟩)))) cells cur.toList) :
    ∃ hd', Inv C hd' (S.renew d (.box cells)) tmps (w.alloc (.cells cur t)) ∧
      SSRel (w.alloc (.cells cur t)) (C.F hd' (S.renew d (.box cells))) hd' (.one (.ptr d 0)) (.pointer (some ⟨w.heap.size, 0, none⟩)) := by
  obtain ⟨I', _⟩ := I.renew (w' := w.alloc (.cells cur t)) d (.box cells) (.pointer (some ⟨w.heap.size, 0, none⟩)) (on_alloc _ _)
    (fun b hb => by simp [blk] at hb; exact .inl (by omega)) (fun b hb _ => RowKit.Below.heap_alloc w _ b hb)
    (fun F' k => ⟨w.heap.size, cur, t, rfl, heap_alloc_new w _, hrel F' k⟩)
  exact ⟨_, I', ⟨w.heap.size, upd_same _ _ _, rfl⟩⟩

/-- A list of the call's own. -/
theorem new_arr {w' : World} (I : Inv C hd S tmps w) (d : Nat) (e : TypeId) (t : Ty) (l : List t.den) (v : Value) (xs : List Value) (on : On w w')
    (hblk : ∀ b, blk v = some b → w.heap.size ≤ b ∨ Lies hd S d b) (hmem : ∀ b, b < w.heap.size → ¬ Lies hd S d b → w'.heap[b]? = w.heap[b]?)
    (ho : w'.ownsRow 0 e t.nc v l.length xs) (hr : ∀ F', Keeps w w' (C.F hd S) F' → rows (t.cells w' F') l xs) :
    ∃ hd', Inv C hd' (S.renew d (.arr e t l)) tmps w' ∧ SSRel w' (C.F hd' (S.renew d (.arr e t l))) hd' (.one (.own d)) v := by
  obtain ⟨I', _⟩ := I.renew (w' := w') d (.arr e t l) v on hblk hmem (fun F' k => ⟨xs, ho, hr F' k⟩)
  refine ⟨_, I', ⟨(upd_same _ _ _).symm, ?_⟩⟩
  rcases ho.2 with ⟨rfl, _⟩ | ⟨g, cap, cur, rfl, _⟩
  · rfl
  · rfl

theorem alloc_good (I : Inv C hd S tmps w) {t d : Nat} {κ : SS → List Ef → Option R} {r : R} {z : List SV} (hz : zeroCells C.P t = some z) (h : κ (.one (.ptr d 0)) [.renew d (.box z)] = some r) :
    Good C S tmps κ r ((Instr.alloc t true (.tuple #[])).run C.P w) := by
  obtain ⟨i, zv, hi, hzv, rfl, _⟩ := zeroCells_ok hz
  obtain ⟨hd', I', hs⟩ := new_box I d (ofCells zv.cells.toList) zv.cells t (fun F' _ => all2_ofCells _ F' _ _)
  exact ⟨_, _, hd', _, _, by simp [Instr.alloc, zeroValue, typeInfo, hi, hzv, newVar, newRow]; first | done | rfl, h, I', hs⟩

theorem box_good (I : Inv C hd S tmps w) {t d : Nat} {s : SS} {v : Value} (hs : SSRel w (C.F hd S) hd s v) {κ : SS → List Ef → Option R} {r : R} {vs : List SV} (hv : cellsOf s = some vs) (hso : solids vs = true)
    (h : κ (.one (.ptr d 0)) [.renew d (.box (killCells d vs))] = some r) : Good C S tmps κ r ((Instr.box t v).run C.P w) := by
  have hc := cells_of_ss hs hv hso
  obtain ⟨hd', I', hs'⟩ := new_box I d (killCells d vs) v.cells t (fun F' k => all2_killCells k d (fun j hj => upd_ne _ hj) hc)
  exact ⟨_, _, hd', _, _, by simp [Instr.box, newVar, newRow]; first | done | rfl, h, I', hs'⟩

theorem foldl_zipIdx (off : Nat) : ∀ (l : List Value) (k : Nat) (cells : Array Value), off + k + l.length ≤ cells.size →
    ((l.zipIdx k).foldl (fun cs (x : Value × Nat) => cs.setIfInBounds (off + x.2) x.1) cells).toList = cells.toList.take (off + k) ++ l ++ cells.toList.drop (off + k + l.length)
  | [], k, cells, _ => by simp
  | v :: l, k, cells, h => by
    simp only [List.zipIdx_cons, List.foldl_cons]
    rw [foldl_zipIdx off l (k + 1) _ (by simp at h ⊢; omega)]
    have e := list_seg_step cells.toList (off + k) v l (by simp at h ⊢; omega)
    simpa [Array.toList_setIfInBounds, Nat.add_assoc] using e

/-- The parts, as the evaluator and as the model lay them. -/
theorem fill_ok (I : Inv C hd S tmps w) (ds : List Deferred) (place : Nat → Option (Nat × Nat)) : ∀ (parts : List (Nat × Operand)) (l l' : List SV) (cells : Array Value), all2 (SVRel w (C.F hd S) hd) l cells.toList →
    fillCells place (rd S) l parts = some l' →
    ∃ cells', Instr.fill place cells (parts.map fun p => (p.1, ({ tmps, defers := ds } : Act).eval p.2)) = some cells' ∧ all2 (SVRel w (C.F hd S) hd) l' cells'.toList
  | [], l, l', cells, hl, h => by simp only [fillCells, Option.some.injEq] at h; subst h; exact ⟨cells, by simp [Instr.fill], hl⟩
  | (i, x) :: parts, l, l', cells, hl, h => by
    unfold fillCells at h
    split at h
    · rename_i o n vs hp hv
      obtain ⟨hb, h1⟩ := bif_some h
      clear h
      simp only [Bool.and_eq_true] at hb
      obtain ⟨hb1, hb2⟩ := hb
      have hn := Nat.eq_of_beq_eq_true hb1
      split at h1
      · rename_i l1 hov
        have hc := cells_of_ss (I.rd x ds) hv hb2
        obtain ⟨hnew, hfit⟩ := overlay_ok hov hl hc
        obtain ⟨v, ev⟩ : ∃ v, ({ tmps, defers := ds } : Act).eval x = v := ⟨_, rfl⟩
        rw [ev] at hc hnew hfit
        have hsz : v.cells.size = n := by have := hc.len; rw [hn] at this; simpa using this.symm
        have hf := foldl_zipIdx o v.cells.toList 0 cells (by simpa using hfit)
        simp only [Nat.add_zero] at hf
        obtain ⟨cells', hfill, hl'⟩ := fill_ok I ds place parts l1 l' ((v.cells.toList.zipIdx 0).foldl (fun cs (x : Value × Nat) => cs.setIfInBounds (o + x.2) x.1) cells) (by rw [hf]; exact hnew) h1
        refine ⟨cells', ?_, hl'⟩
        have e : v.cells.zipIdx.foldl (fun cs (x : Value × Nat) => cs.setIfInBounds (o + x.2) x.1) cells = (v.cells.toList.zipIdx 0).foldl (fun cs (x : Value × Nat) => cs.setIfInBounds (o + x.2) x.1) cells := by
          rw [← Array.foldl_toList, Array.toList_zipIdx]
        simp only [List.map_cons, Instr.fill, hp, ev]
        have hfit' : o + v.cells.size ≤ cells.size := by simpa using hfit
        rw [if_neg (by simp [hsz]; omega)]
        rw [← hfill, ← e]
      · cases h1
    · cases h

theorem run_mapM_fields {P : Program} : ∀ (l : List Field), l.all (fun f => (P.info? f.type).isSome) = true →
    (l.mapM (fun f => (do pure (f.offset, ← sizeOf f.type) : Sem (Nat × Nat)))).run P w = .ok (l.map fun f => (f.offset, P.cellsOf f.type)) w
  | [], _ => by simp
  | f :: l, h => by
    simp only [List.all_cons, Bool.and_eq_true] at h
    simp only [List.mapM_cons, Sem.run_bind, cellsOf_pos h.1, Result.andThen_ok, Sem.run_pure, run_mapM_fields l h.2, List.map_cons]

theorem build_good (I : Inv C hd S tmps w) (ds : List Deferred) {t : TypeId} {parts : Array (Nat × Operand)} {κ : SS → List Ef → Option R} {r : R} (h : build C.P (rd S) t parts.toList (fun v => κ v []) = some r) :
    Good C S tmps κ r ((Instr.build t (parts.map fun (i, x) => (i, ({ tmps, defers := ds } : Act).eval x))).run C.P w) := by
  unfold build at h
  split at h
  · rename_i z fs hz hu
    obtain ⟨hall, h1⟩ := bif_some h
    clear h
    split at h1
    · rename_i l hl
      obtain ⟨i, zv, hi, hzv, rfl, _⟩ := zeroCells_ok hz
      obtain ⟨cells', hf, hl'⟩ := fill_ok I ds _ parts.toList _ l zv.cells (all2_ofCells _ _ _ _) hl
      refine Good.pure I (v := .agg cells') ?_ h1 ⟨cells', rfl, hl'⟩
      have hp : (places C.P fs.toList) = fun i => ((fs.toList.map fun f => (f.offset, C.P.cellsOf f.type)).toArray)[i]? := by
        funext i
        simp only [places, List.getElem?_toArray, List.getElem?_map]
        cases fs.toList[i]? <;> rfl
      have hm := run_mapM_fields (w := w) fs.toList hall
      rw [hp] at hf
      have hm2 : (fs.mapM (fun f => (do pure (f.offset, ← sizeOf f.type) : Sem (Nat × Nat)))).run C.P w = .ok (fs.toList.map fun f => (f.offset, C.P.cellsOf f.type)).toArray w := by
        rw [← Array.toArray_toList (xs := fs), List.mapM_toArray]
        simp only [Sem.run_map, hm, Result.andThen_ok]
      simp only [Instr.build, zeroValue, typeInfo, Sem.run_bind, run_program, Result.andThen_ok, hi, Sem.run_pure, hzv, run_underlying hu, hm2]
      have hpt : (parts.map fun (i, x) => (i, ({ tmps, defers := ds } : Act).eval x)).toList = parts.toList.map fun p => (p.1, ({ tmps, defers := ds } : Act).eval p.2) := by simp
      simp only [hpt, hf, Sem.run_pure]
    · cases h1
  · rename_i z n e hz hu
    obtain ⟨hall, h1⟩ := bif_some h
    clear h
    split at h1
    · rename_i l hl
      obtain ⟨i, zv, hi, hzv, rfl, _⟩ := zeroCells_ok hz
      obtain ⟨cells', hf, hl'⟩ := fill_ok I ds _ parts.toList _ l zv.cells (all2_ofCells _ _ _ _) hl
      refine Good.pure I (v := .agg cells') ?_ h1 ⟨cells', rfl, hl'⟩
      have hpt : (parts.map fun (i, x) => (i, ({ tmps, defers := ds } : Act).eval x)).toList = parts.toList.map fun p => (p.1, ({ tmps, defers := ds } : Act).eval p.2) := by simp
      simp only [Instr.build, zeroValue, typeInfo, Sem.run_bind, run_program, Result.andThen_ok, hi, Sem.run_pure, hzv, run_underlying hu, cellsOf_pos hall, hpt, hf]
    · cases h1
  · cases h

theorem decMany_ok {F : Nat → Prop} (t : Ty) : ∀ (n : Nat) (cs : List SV) (l : List t.den) (vs : List Value), decMany t n cs = some l → all2 (SVRel w F hd) cs vs →
    l.length = n ∧ ∃ xs r, vs = xs ++ r ∧ rows (t.cells w F) l xs
  | 0, cs, l, vs, h, _ => by simp only [decMany, Option.some.injEq] at h; subst h; exact ⟨rfl, [], vs, rfl, rfl⟩
  | n + 1, cs, l, vs, h, hv => by
    unfold decMany at h
    split at h
    · rename_i x r hx
      split at h
      · rename_i l' hl'
        simp only [Option.some.injEq] at h
        subst h
        obtain ⟨c, d, e, hc, hd'⟩ := dec_ok t cs x r vs hx hv
        obtain ⟨h1, xs, r', e2, hr⟩ := decMany_ok t n r l' d hl' hd'
        exact ⟨by simp [h1], c ++ xs, r', by rw [e, e2, List.append_assoc], ⟨c, xs, rfl, hc, hr⟩⟩
      · cases h
    · cases h

theorem repeatCells_ok {F : Nat → Prop} (z : List SV) (zv : List Value) (h : all2 (SVRel w F hd) z zv) : ∀ n, all2 (SVRel w F hd) (repeatCells z n) (List.replicate n zv).flatten
  | 0 => by simp [repeatCells, all2]
  | n + 1 => by
    simp only [repeatCells, List.replicate_succ, List.flatten_cons]
    exact all2.app h (repeatCells_ok z zv h n)

theorem range_mod (z : Array Value) (k : Nat) (hk : z.size = k) : ∀ n, ((Array.range (n * k)).map (z[· % k]!)).toList = (List.replicate n z.toList).flatten := by
  intro n
  apply List.ext_getElem?
  intro j
  have hlen : ∀ n, (List.replicate n z.toList).flatten.length = n * k := by intro n; simp [hk]
  by_cases hj : j < n * k
  · have hk0 : 0 < k := by rcases Nat.eq_zero_or_pos k with h | h <;> simp_all
    have e1 : ((Array.range (n * k)).map (z[· % k]!)).toList[j]? = some (z[j % k]!) := by simp [hj]
    rw [e1]
    have key : ∀ n j, j < n * k → (List.replicate n z.toList).flatten[j]? = some (z[j % k]!) := by
      intro n
      induction n with
      | zero => intro j hj; simp at hj
      | succ n ih =>
        intro j hj
        rw [List.replicate_succ, List.flatten_cons, List.getElem?_append]
        by_cases h : j < k
        · rw [if_pos (by simpa [hk] using h), Nat.mod_eq_of_lt h]
          have : j < z.size := by omega
          simp [this]
        · have h' : k ≤ j := by omega
          rw [if_neg (by simp [hk]; omega)]
          simp only [Array.length_toList, hk]
          rw [ih (j - k) (by rw [Nat.add_mul] at hj; omega), Nat.mod_eq_sub_mod h']
    rw [key n j hj]
  · rw [List.getElem?_eq_none (by simp; omega), List.getElem?_eq_none (by rw [hlen]; omega)]

theorem buildSlice_good (I : Inv C hd S tmps w) (hsub : Sub lk S) (ds : List Deferred) {t d len : Nat} {parts : Array (Nat × Operand)} {κ : SS → List Ef → Option R} {r : R} (h : buildSlice C.P (rd S) lk d t len parts.toList κ = some r) :
    Good C S tmps κ r ((Instr.buildSlice t len (parts.map fun (i, x) => (i, ({ tmps, defers := ds } : Act).eval x))).run C.P w) := by
  unfold buildSlice at h
  split at h
  · rename_i e hu
    split at h
    · rename_i ty z hty hz
      split at h
      · rename_i cells hble hf
        obtain ⟨i, zv, hi, hzv, rfl, hzs⟩ := zeroCells_ok hz
        simp only [Bool.and_eq_true] at hble
        have hle := Nat.le_of_ble_eq_true hble.1
        have hle2 := Nat.le_of_ble_eq_true hble.2
        have hce : C.P.cellsOf e = i.size := by simp [Program.cellsOf, hi]
        have htn : ty.nc = i.size := by
          unfold tyIn at hty
          split at hty
          · rename_i ty' i' _ hi'
            obtain ⟨hb, hty⟩ := bif_some hty
            simp only [Option.some.injEq] at hty
            subst hty
            rw [hi] at hi'
            simp only [Option.some.injEq] at hi'
            subst hi'
            exact Nat.eq_of_beq_eq_true hb
          · cases hty
        have hz2 : (Array.range (len * i.size)).map ((if len * i.size = 0 then #[] else zv.cells)[· % (if len * i.size = 0 then #[] else zv.cells).size]!) = (List.replicate len zv.cells.toList).flatten.toArray := by
          by_cases h0 : len * i.size = 0
          · have : (List.replicate len zv.cells.toList).flatten = [] := by
              apply List.eq_nil_of_length_eq_zero; simp [hzs, h0]
            rw [this, h0]; simp
          · rw [if_neg h0, hzs, ← range_mod zv.cells i.size hzs len]
        obtain ⟨cells', hfill, hl'⟩ := fill_ok I ds _ parts.toList _ cells (List.replicate len zv.cells.toList).flatten.toArray (by simpa using repeatCells_ok _ _ (all2_ofCells w (C.F hd S) hd zv.cells.toList) len) hf
        split at h
        · rename_i vs' es0 hfz
          obtain ⟨I1, hvs', _, _⟩ := freezeAll_ok d rfl I (Has.of hsub) hl' hfz
          split at h
          · rename_i l hdec
            obtain ⟨hll, xs, rr, hxs, hrows⟩ := decMany_ok ty len vs' l _ hdec hvs'
            have hsz : cells'.size = len * i.size := by
              have := hl'.len
              have h2 : cells.length = len * i.size := by
                have key : ∀ (parts : List (Nat × Operand)) (l l' : List SV) (pl : Nat → Option (Nat × Nat)), fillCells pl (rd S) l parts = some l' → l'.length = l.length := by
                  intro parts
                  induction parts with
                  | nil => intro l l' pl h; simp only [fillCells, Option.some.injEq] at h; rw [h]
                  | cons p parts ih =>
                    intro l l' pl h
                    unfold fillCells at h
                    split at h
                    · obtain ⟨_, h1⟩ := bif_some h
                      split at h1
                      · rename_i l1 hov
                        rw [ih _ _ _ h1]
                        unfold overlay at hov
                        obtain ⟨hb, hov⟩ := bif_some hov
                        have := Nat.le_of_ble_eq_true hb
                        simp only [Option.some.injEq] at hov
                        rw [← hov]
                        simp; omega
                      · cases h1
                    · cases h
                rw [key _ _ _ _ hf]
                have : ∀ n (z : List SV), (repeatCells z n).length = n * z.length := by
                  intro n z
                  induction n with
                  | zero => simp [repeatCells]
                  | succ n ih => simp [repeatCells, ih, Nat.add_mul, Nat.add_comm]
                rw [this]
                have : ∀ l : List Value, (ofCells l).length = l.length := by
                  intro l; induction l with
                  | nil => rfl
                  | cons _ _ ih => simp [ofCells, ih]
                rw [this]; simp [hzs]
              rw [h2] at this; simpa using this.symm
            have hrr : rr = [] := by
              have h3 := hrows.len ty.cells_len
              have h4 := congrArg List.length hxs
              simp only [List.length_append, Array.length_toList, hsz, h3, hll, htn] at h4
              exact List.eq_nil_of_length_eq_zero (by omega)
            subst hrr
            rw [List.append_nil] at hxs
            obtain ⟨hd', I', hs⟩ := new_arr (w' := w.alloc (.cells cells' e)) I1 d e ty l (.slice (some ⟨w.heap.size, 0, none⟩) len len) xs (on_alloc _ _)
              (fun b hb => by simp [blk] at hb; exact .inl (by omega)) (fun b hb _ => RowKit.Below.heap_alloc w _ b hb)
              (by rw [← hxs, htn, hll]
                  exact World.ownsRow_lit w cells' len (Nat.zero_le _) (by simp only [maxLen]; omega) hsz)
              (fun F' k => rows.mono (ty.cells_keep k) hrows)
            refine ⟨_, _, hd', es0 ++ [.renew d (.arr e ty l)], _, ?_, h, by rw [apps_append]; exact I', by rw [apps_append]; exact hs⟩
            have hpt : (parts.map fun (i, x) => (i, ({ tmps, defers := ds } : Act).eval x)).toList = parts.toList.map fun p => (p.1, ({ tmps, defers := ds } : Act).eval p.2) := by simp
            have hno : ¬ (len * i.size > 2 ^ 24) := by rw [hce] at hle; omega
            have hsize : (sizeOf e).run C.P w = .ok i.size w := by simp [sizeOf, typeInfo, hi]
            rw [hce] at hfill
            have hz3 := hz2
            simp only [Instr.buildSlice, Sem.run_bind, run_underlying hu, Result.andThen_ok, hsize, hno, if_false]
            by_cases h0 : len * i.size = 0
            · rw [if_pos h0] at hz3
              simp only [if_pos h0, Sem.run_bind, Sem.run_pure, Result.andThen_ok, hz3, hpt, hfill]
              simp [newRow]; first | done | rfl
            · rw [if_neg h0] at hz3
              simp only [if_neg h0, Sem.run_bind, Sem.run_pure, Result.andThen_ok, zeroValue, typeInfo, run_program, hi, hzv, hz3, hpt, hfill]
              simp [newRow]; first | done | rfl
          · cases h
        · cases h
      · cases h
    · cases h
  · cases h

end
end Go.Sh
