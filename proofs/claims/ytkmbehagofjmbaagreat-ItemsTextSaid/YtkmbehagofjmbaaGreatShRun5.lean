/-
  The shadow evaluator's operations are right, VI: copy, slices of slices, an element's address, builtins. No project text.
-/
import Derived.Test.YtkmbehagofjmbaaGreatShRun4
namespace Go.Sh

section
variable {R : Type} {C : Ctx} {hd : Nat → Value} {S : St} {lk : Lk} {tmps : Array Value} {w : World}

theorem run_copy_gen {P : Program} (dT sT ty elem : TypeId) (i : TypeInfo) (g o dLen dCap : Nat) (a : Addr) (sLen sCap : Nat) (cur : Array Value) (t : TypeId) (cs : List Value)
    (hu : P.underlying dT = some (.slice elem)) (hs : P.info? elem = some i) (hg : w.heap[g]? = some (.cells cur t (0, 0))) (hn : cs.length = Nat.min sLen dLen * i.size)
    (hsrc : ∀ j v, cs[j]? = some v → w.cell? (a.add j) = some v) (hfit : o + cs.length ≤ cur.size) (h1 : ∀ v ∈ cs, v.oneCell' = true) :
    (Builtin.copy_ #[dT, sT] ty #[.slice (some ⟨g, o, none⟩) dLen dCap, .slice (some a) sLen sCap]).run P w =
      .ok (goInt (Nat.min sLen dLen : Nat)) (w.setRow g (cur.toList.take o ++ cs ++ cur.toList.drop (o + cs.length)).toArray) := by
  have hl := run_loadCells_list (P := P) w a cs hsrc
  have hst := run_storeCells_at P g o t cs 0 cur w hg (by simpa using hfit) h1
  rw [hn] at hl
  simp only [Nat.add_zero] at hst
  simp [Builtin.copy_, run_underlying hu, Builtin.lenOf, Builtin.firstCells, sizeOf, typeInfo, hs, hl, hst]

theorem setRow_self {g e : Nat} {cur : Array Value} (hg : w.heap[g]? = some (.cells cur e (0, 0))) : w.setRow g cur = w := by
  have : (w.setRow g cur).heap = w.heap := by
    apply Array.ext_getElem?
    intro j
    by_cases hj : j = g
    · subst hj; rw [setRow_heap w j cur cur e (0, 0) hg, hg]
    · exact setRow_other w g j cur hj
  cases w
  simp only [World.setRow] at this ⊢
  rw [this]

theorem overList_eq {α : Type} : ∀ (l m : List α), overList l m = m.take l.length ++ l.drop m.length
  | [], m => by simp [overList]
  | x :: l, [] => by simp [overList, overList_eq l]
  | x :: l, y :: m => by simp [overList, overList_eq l]

theorem encMany_ok {F : Nat → Prop} (t : Ty) : ∀ (l : List t.den) (xs : List Value), rows (t.cells w F) l xs → all2 (SVRel w F hd) (encMany t l) xs
  | [], _, h => by cases h; exact trivial
  | x :: l, _, ⟨c, r, h, hc, hl⟩ => by
    rw [h]
    exact all2.app (enc_ok t x c hc) (encMany_ok t l r hl)

theorem partK_ok {t u : Ty} {i n a j m : Nat} {κ : List t.den → Option R} {r : R} (h : partK lk t i n a j m u κ = some r) : ∃ l, listOf lk t (.es i n a j m u) = some l ∧ κ l = some r := by
  unfold partK at h
  split at h
  · rename_i e ty l hlk
    obtain ⟨hn, h1⟩ := bif_some h
    rw [Option.bind_eq_some_iff] at h1
    obtain ⟨d, hd', h2⟩ := h1
    split at h2
    · rename_i x hx
      exact ⟨x, by simp only [listOf, hlk, hn, cond_true, hd', Option.bind_some]; exact hx, h2⟩
    · cases h2
  · cases h

/-- A copy into an array that lies in memory of the call's own. -/
theorem copy_part (I : Inv C hd S tmps w) (hsub : Sub lk S) {t u ty' e : TypeId} {ty : Ty} {sv dst : SV} {vx vy : Value} {y : SV} {n : Nat} {m old : List ty.den} (hu : C.P.underlying t = some (.slice e)) (hty : tyIn C.P e = some ty)
    (hv : (∃ i off n u, sv = .bs i off n u) ∨ ∃ i n a j m u, sv = .es i n a j m u)
    (hdst : ∀ b off, vx = .slice (some ⟨b, off, none⟩) n n → SVRel w (C.F hd S) hd dst (.pointer (some ⟨b, off, none⟩))) (hn0 : ∀ a l c, vx = .slice a l c → l = n)
    (hx : SVRel w (C.F hd S) hd sv vx) (hy : SVRel w (C.F hd S) hd y vy) (hm : listOf lk ty y = some m) (ho : listOf lk ty sv = some old) {κ : SS → List Ef → Option R} {r : R}
    (h : putCells lk dst (encMany ty (overList old m)) (fun es => κ (.at (.int .i64 (min m.length n : Nat))) es) = some r) : Good C S tmps κ r ((Builtin.copy_ #[t, u] ty' #[vx, vy]).run C.P w) := by
  obtain ⟨i, hi, hnc, _, _⟩ := tyIn_nc hty
  obtain ⟨id, o, b, off, xs, hmem, _, hb, rfl, hr, hc⟩ := part_ok I hsub hv ho hx
  have hol : old.length = n := hn0 _ _ _ rfl
  subst hol
  have hxl := hr.len ty.cells_len
  -- what is laid over, as cells
  have key : ∀ ys : List Value, rows (ty.cells w (C.F hd S)) m ys → ∃ (cur : Array Value) (e' : TypeId) (hd' : Nat → Value) (S' : List Ef), w.heap[b]? = some (.cells cur e' (0, 0)) ∧ off + xs.length ≤ cur.size ∧
      κ (.at (.int .i64 (min m.length old.length : Nat))) S' = some r ∧
      Inv C hd' (apps S' S) tmps (w.setRow b (cur.toList.take off ++ ys.take (min m.length old.length * ty.nc) ++ cur.toList.drop (off + (ys.take (min m.length old.length * ty.nc)).length)).toArray) := by
    intro ys hry
    have hyl := hry.len ty.cells_len
    have hmin : m.take old.length = m.take (min m.length old.length) := by
      rcases Nat.le_total m.length old.length with h | h
      · rw [Nat.min_eq_left h, List.take_of_length_le h, List.take_of_length_le (Nat.le_refl _)]
      · rw [Nat.min_eq_right h]
    have hmin2 : old.drop m.length = old.drop (min m.length old.length) := by
      rcases Nat.le_total m.length old.length with h | h
      · rw [Nat.min_eq_left h]
      · rw [Nat.min_eq_right h, List.drop_eq_nil_of_le h, List.drop_eq_nil_of_le (Nat.le_refl _)]
    have hr2 : rows (ty.cells w (C.F hd S)) (overList old m) (ys.take (min m.length old.length * ty.nc) ++ xs.drop (min m.length old.length * ty.nc)) := by
      rw [overList_eq, hmin, hmin2]
      exact rows.app (rows.take ty.cells_len _ hry) (rows.drop ty.cells_len _ hr)
    obtain ⟨b', off', cur, e', hp, hg, hfit, hd', S', hk, I'⟩ := put_good I hsub (hdst b off rfl) (encMany_ok ty _ _ hr2) h
    simp only [Value.pointer.injEq, Option.some.injEq, Addr.mk.injEq, and_true] at hp
    obtain ⟨rfl, rfl⟩ := hp
    have hle : min m.length old.length * ty.nc ≤ old.length * ty.nc := Nat.mul_le_mul_right _ (Nat.min_le_right _ _)
    have hle2 : min m.length old.length * ty.nc ≤ m.length * ty.nc := Nat.mul_le_mul_right _ (Nat.min_le_left _ _)
    have hl1 : (ys.take (min m.length old.length * ty.nc)).length = min m.length old.length * ty.nc := by rw [List.length_take, hyl]; omega
    have hl2 : (ys.take (min m.length old.length * ty.nc) ++ xs.drop (min m.length old.length * ty.nc)).length = xs.length := by
      rw [List.length_append, hl1, List.length_drop, hxl]; omega
    rw [hl2] at hfit I'
    refine ⟨cur, e', hd', S', hg, hfit, hk, ?_⟩
    have hrow : cur.toList.take off ++ (ys.take (min m.length old.length * ty.nc) ++ xs.drop (min m.length old.length * ty.nc)) ++ cur.toList.drop (off + xs.length) =
        cur.toList.take off ++ ys.take (min m.length old.length * ty.nc) ++ cur.toList.drop (off + (ys.take (min m.length old.length * ty.nc)).length) := by
      have hxs : xs = (cur.toList.drop off).take xs.length := by
        apply List.ext_getElem?
        intro j
        rw [List.getElem?_take]
        split
        · rename_i hj
          have h1 := hc j _ (List.getElem?_eq_getElem hj)
          rw [List.getElem?_eq_getElem hj, List.getElem?_drop]
          have hj2 : off + j < cur.size := by omega
          have h2 := row_cells hg off j (cur[off + j]) (by rw [List.getElem?_drop]; simp [hj2])
          rw [h1] at h2
          rw [h2]
          simp [hj2]
        · rename_i hj
          exact List.getElem?_eq_none (by omega)
      have hd3 : cur.toList.drop (off + (ys.take (min m.length old.length * ty.nc)).length) = xs.drop (min m.length old.length * ty.nc) ++ cur.toList.drop (off + xs.length) := by
        rw [hl1, ← List.drop_drop]
        conv => lhs; rw [← List.take_append_drop xs.length (cur.toList.drop off), ← hxs]
        rw [List.drop_append_of_le_length (by rw [hxl]; exact hle), List.drop_drop]
      rw [hd3]
      simp [List.append_assoc]
    rw [hrow] at I'
    exact I'
  rcases source_ok I hsub hm hy with ⟨rfl, rfl⟩ | ⟨a, cap, ys, rfl, _, hry, hcy⟩
  · obtain ⟨cur, e', hd', S', hg, hfit, hk, I'⟩ := key [] rfl
    simp only [List.take_nil, List.append_nil, List.length_nil, Nat.add_zero, List.take_append_drop, Array.toArray_toList] at I'
    rw [setRow_self hg] at I'
    refine ⟨_, w, hd', S', _, ?_, hk, I', (rfl : _ = _)⟩
    simp [Builtin.copy_, run_underlying hu, Builtin.lenOf, Builtin.firstCells, sizeOf, typeInfo, hi, storeCells]
    rfl
  · obtain ⟨cur, e', hd', S', hg, hfit, hk, I'⟩ := key ys hry
    have hml := hry.len ty.cells_len
    have hcl : (ys.take (min m.length old.length * ty.nc)).length = Nat.min m.length old.length * i.size := by
      rw [List.length_take, hml, ← hnc]
      exact Nat.min_eq_left (Nat.mul_le_mul_right _ (Nat.min_le_left _ _))
    have hfit2 : off + (ys.take (min m.length old.length * ty.nc)).length ≤ cur.size := by
      rw [hcl, ← hnc]
      have : Nat.min m.length old.length * ty.nc ≤ old.length * ty.nc := Nat.mul_le_mul_right _ (Nat.min_le_right _ _)
      omega
    have hrun := run_copy_gen (P := C.P) (w := w) t u ty' e i b off old.length old.length a m.length cap cur e' (ys.take (min m.length old.length * ty.nc)) hu hi hg hcl
      (fun j v hj => by
        rw [List.getElem?_take] at hj
        split at hj
        · exact hcy j v hj
        · cases hj) hfit2 (fun v hv => rows.one ty.cells_one hry v (List.mem_of_mem_take hv))
    exact ⟨_, _, hd', S', _, hrun, hk, I', (rfl : _ = _)⟩

theorem copy_good (I : Inv C hd S tmps w) (hsub : Sub lk S) {t u ty' : TypeId} {sx sy : SS} {vx vy : Value} (hx : SSRel w (C.F hd S) hd sx vx) (hy : SSRel w (C.F hd S) hd sy vy) {κ : SS → List Ef → Option R} {r : R}
    (h : copy C.P lk t sx sy κ = some r) : Good C S tmps κ r ((Builtin.copy_ #[t, u] ty' #[vx, vy]).run C.P w) := by
  unfold copy at h
  split at h
  · rename_i e id y hu
    split at h
    · rename_i ty e' ty2 l' hty hlk
      split at h
      · rename_i l m hl hm
        obtain ⟨i, hi, hn, _, hbo⟩ := tyIn_nc hty
        obtain ⟨rfl, he⟩ := castL_eq hl
        simp only at he
        subst he
        obtain ⟨hx, _⟩ := hx
        subst hx
        have hmem := look_mem (hsub _ _ hlk)
        obtain ⟨xs, ho, hr⟩ := I.objs _ hmem
        simp only at ho hr
        have hkeep : ∀ (m : List ty2.den), min m.length l'.length = 0 → m.take l'.length ++ l'.drop m.length = l' := by
          intro m h0
          rcases Nat.eq_zero_or_pos m.length with h1 | h1
          · have : m = [] := List.eq_nil_of_length_eq_zero h1
            subst this; simp
          · have : l' = [] := List.eq_nil_of_length_eq_zero (by omega)
            subst this; simp
        have idle : min m.length l'.length = 0 → (Builtin.copy_ #[t, u] ty' #[hd id, vy]).run C.P w = .ok (goInt (min m.length l'.length : Nat)) w →
            Good C S tmps κ r ((Builtin.copy_ #[t, u] ty' #[hd id, vy]).run C.P w) := by
          intro h0 hrun
          obtain ⟨I', _⟩ := I.set (w' := w) id (.arr e' ty2 (m.take l'.length ++ l'.drop m.length)) (On.refl w) (fun _ _ _ => rfl) (fun _ => by rw [hkeep m h0]; exact ⟨xs, ho, hr⟩)
          exact ⟨_, _, hd, _, _, hrun, h, I', (rfl : _ = _)⟩
        rcases source_ok I hsub hm hy with ⟨rfl, rfl⟩ | ⟨a, cap, ys, rfl, _, hry, hcy⟩
        · refine idle (by simp) ?_
          rcases ho.2 with ⟨h1, _⟩ | ⟨g, cap, cur, h1, _⟩
          · rw [h1]; simp [Builtin.copy_, run_underlying hu, Builtin.lenOf, Builtin.firstCells, sizeOf, typeInfo, hi]
          · rw [h1]; simp [Builtin.copy_, run_underlying hu, Builtin.lenOf, Builtin.firstCells, sizeOf, typeInfo, hi, storeCells]
        · rcases ho.2 with ⟨h1, h2⟩ | ⟨g, cap', cur, h1, _, hg, hle, hcm, hcs, htake⟩
          · refine idle (by omega) ?_
            rw [h1, h2]
            have hl0 := run_loadCells_list (P := C.P) w a [] (by simp)
            simp only [List.length_nil] at hl0
            simp [Builtin.copy_, run_underlying hu, Builtin.lenOf, Builtin.firstCells, sizeOf, typeInfo, hi, hl0]
          · have hml := hry.len ty2.cells_len
            have hcl : (ys.take (min m.length l'.length * ty2.nc)).length = Nat.min m.length l'.length * i.size := by
              rw [List.length_take, hml, ← hn]
              exact Nat.min_eq_left (Nat.mul_le_mul_right _ (Nat.min_le_left _ _))
            have hfit : 0 + (ys.take (min m.length l'.length * ty2.nc)).length ≤ cur.size := by
              rw [hcl, ← hn, hcs, Nat.zero_add]
              exact Nat.mul_le_mul_right _ (Nat.le_trans (Nat.min_le_right _ _) hle)
            have hrun := run_copy_gen (P := C.P) (w := w) t u ty' e i g 0 l'.length cap' a m.length cap cur e' (ys.take (min m.length l'.length * ty2.nc)) hu hi hg hcl
              (fun j v hj => by
                rw [List.getElem?_take] at hj
                split at hj
                · exact hcy j v hj
                · cases hj) hfit (fun v hv => rows.one ty2.cells_one hry v (List.mem_of_mem_take hv))
            have hlies : Lies hd S id g := ⟨⟨_, hmem⟩, by rw [h1]; rfl⟩
            simp only [List.take_zero, List.nil_append, Nat.zero_add] at hrun
            obtain ⟨I', _⟩ := I.set (w' := w.setRow g (ys.take (min m.length l'.length * ty2.nc) ++ cur.toList.drop (ys.take (min m.length l'.length * ty2.nc)).length).toArray) id
              (.arr e' ty2 (m.take l'.length ++ l'.drop m.length)) (on_setRow _ _ _) (fun b _ hnl => setRow_other w g b _ (fun e => hnl (e ▸ hlies)))
              (fun k => by
                have hmin : m.take l'.length = m.take (min m.length l'.length) := by
                  rcases Nat.le_total m.length l'.length with h | h
                  · rw [Nat.min_eq_left h, List.take_of_length_le h, List.take_of_length_le (Nat.le_refl _)]
                  · rw [Nat.min_eq_right h]
                have hmin2 : l'.drop m.length = l'.drop (min m.length l'.length) := by
                  rcases Nat.le_total m.length l'.length with h | h
                  · rw [Nat.min_eq_left h]
                  · rw [Nat.min_eq_right h, List.drop_eq_nil_of_le h, List.drop_eq_nil_of_le (Nat.le_refl _)]
                have hlen : (m.take l'.length ++ l'.drop m.length).length = l'.length := by
                  simp only [List.length_append, List.length_take, List.length_drop]; omega
                have hr2 : rows (ty2.cells w (C.F hd S)) (m.take l'.length ++ l'.drop m.length) (ys.take (min m.length l'.length * ty2.nc) ++ xs.drop (min m.length l'.length * ty2.nc)) := by
                  rw [hmin, hmin2]
                  exact rows.app (rows.take ty2.cells_len _ hry) (rows.drop ty2.cells_len _ hr)
                refine ⟨_, ?_, rows.mono (ty2.cells_keep k) hr2⟩
                have hxl := hr2.len ty2.cells_len
                rw [hlen] at hxl
                refine ⟨by rw [hlen]; exact hxl, .inr ⟨g, cap', _, by rw [h1, hlen], Nat.zero_le _, setRow_heap w g cur _ e' (0, 0) hg, by rw [hlen]; exact hle, hcm, ?_, ?_⟩⟩
                · simp only [List.size_toArray, List.length_append, List.length_drop, Array.length_toList]; omega
                · rw [hlen, ← hxl]
                  have hd2 : cur.toList.drop (ys.take (min m.length l'.length * ty2.nc)).length = xs.drop (min m.length l'.length * ty2.nc) ++ cur.toList.drop (l'.length * ty2.nc) := by
                    have hcur : cur.toList = xs ++ cur.toList.drop (l'.length * ty2.nc) := by
                      conv => lhs; rw [← List.take_append_drop (l'.length * ty2.nc) cur.toList, htake]
                    have hxl2 : xs.length = l'.length * ty2.nc := ho.1
                    have hlen2 : (ys.take (min m.length l'.length * ty2.nc)).length = min m.length l'.length * ty2.nc := by rw [hcl, hn]
                    rw [hlen2]
                    conv => lhs; rw [hcur]
                    rw [List.drop_append_of_le_length]
                    rw [hxl2]; exact Nat.mul_le_mul_right _ (Nat.min_le_right _ _)
                  rw [List.toList_toArray, hd2, ← List.append_assoc]
                  exact List.take_left' rfl)
            refine ⟨_, _, hd, _, _, ?_, h, I', (rfl : _ = _)⟩
            rw [h1]
            exact hrun
      · cases h
    · cases h
  · rename_i e i off n v y hu
    split at h
    · rename_i ty hty
      split at h
      · rename_i m old hm ho
        refine copy_part I hsub hu hty (.inl ⟨_, _, _, _, rfl⟩) (fun b o e1 => ?_) (fun a l c e1 => ?_) hx hy hm ho h
        · obtain ⟨b', hb, e2⟩ := hx
          rw [e1] at e2
          simp only [Value.slice.injEq, Option.some.injEq, Addr.mk.injEq, and_true] at e2
          obtain ⟨rfl, rfl⟩ := e2
          exact ⟨_, hb, rfl⟩
        · obtain ⟨b', hb, e2⟩ := hx
          rw [e1] at e2
          simp only [Value.slice.injEq] at e2
          exact e2.2.1
      · cases h
    · cases h
  · rename_i e i k a j n v y hu
    split at h
    · rename_i ty hty
      split at h
      · rename_i m hm
        obtain ⟨old, ho, h⟩ := partK_ok h
        refine copy_part I hsub hu hty (.inr ⟨_, _, _, _, _, _, rfl⟩) (fun b o e1 => ?_) (fun a l c e1 => ?_) hx hy hm ho h
        · obtain ⟨b', L, cc, hb, e2⟩ := hx
          rw [e1] at e2
          simp only [Value.slice.injEq, Option.some.injEq, Addr.mk.injEq, and_true] at e2
          obtain ⟨rfl, rfl⟩ := e2
          exact ⟨_, _, _, hb, rfl⟩
        · obtain ⟨b', L, cc, hb, e2⟩ := hx
          rw [e1] at e2
          simp only [Value.slice.injEq] at e2
          exact e2.2.1
      · cases h
    · cases h
  · cases h

theorem getIntO_ok {F : Nat → Prop} {so : Option SS} {vo : Option Value} {d : Int} {κ : Int → Option R} {r : R} (h : getIntO so d κ = some r)
    (hr : (so = none ∧ vo = none) ∨ ∃ s v, so = some s ∧ vo = some v ∧ SSRel w F hd s v) : (vo = none ∧ κ d = some r) ∨ ∃ k n, vo = some (.int k n) ∧ κ n = some r := by
  rcases hr with ⟨rfl, rfl⟩ | ⟨s, v, rfl, rfl, hs⟩
  · exact .inl ⟨rfl, h⟩
  · obtain ⟨k, n, rfl, h1⟩ := getInt_ok (s := s) h hs
    exact .inr ⟨k, n, rfl, h1⟩

theorem run_bounds {P : Program} (isSlice : Bool) (len cap : Nat) {lo hi : Option Value} {a b : Int} (hlo : (lo = none ∧ a = 0) ∨ ∃ k, lo = some (.int k a)) (hhi : (hi = none ∧ b = len) ∨ ∃ k, hi = some (.int k b))
    (h0 : 0 ≤ a) (h1 : a ≤ b) (h2 : b ≤ cap) : (Instr.sliceBounds isSlice len cap lo hi none).run P w = .ok (a.toNat, b.toNat, cap) w := by
  have e : (b.toNat : Int) = b := Int.toNat_of_nonneg (by omega)
  rcases hlo with ⟨rfl, rfl⟩ | ⟨k, rfl⟩ <;> rcases hhi with ⟨rfl, rfl⟩ | ⟨k', rfl⟩
  · simp [Instr.sliceBounds]
  · simp [Instr.sliceBounds, run_sliceBound w k' b cap _ (by omega) h2]
  · simp [Instr.sliceBounds, run_sliceBound w k a len _ h0 h1]
  · simp [Instr.sliceBounds, run_sliceBound w k' b cap _ (by omega) h2, run_sliceBound w k a b.toNat _ h0 (by omega)]

theorem sizeIs_ok {P : Program} {t : TypeId} {n : Nat} (h : sizeIs P t n = true) : ∃ i, P.info? t = some i ∧ i.size = n := by
  unfold sizeIs at h
  split at h
  · rename_i i hi; exact ⟨i, hi, Nat.eq_of_beq_eq_true h⟩
  · cases h

theorem slice_good (I : Inv C hd S tmps w) (hsub : Sub lk S) {t : TypeId} {sx : SS} {vx : Value} {sl sh : Option SS} {vl vh : Option Value} (hx : SSRel w (C.F hd S) hd sx vx)
    (hl : (sl = none ∧ vl = none) ∨ ∃ s v, sl = some s ∧ vl = some v ∧ SSRel w (C.F hd S) hd s v) (hh : (sh = none ∧ vh = none) ∨ ∃ s v, sh = some s ∧ vh = some v ∧ SSRel w (C.F hd S) hd s v)
    {κ : SS → List Ef → Option R} {r : R} (h : slice C.P lk t sx sl sh (fun v => κ v []) = some r) : Good C S tmps κ r ((Instr.sliceAt t vx vl vh none).run C.P w) := by
  unfold slice at h
  split at h
  · rename_i e ty l hu
    obtain ⟨hsz, h⟩ := bif_some h
    obtain ⟨i, hi, hnc⟩ := sizeIs_ok hsz
    obtain ⟨a, ha, h1⟩ : ∃ a, ((vl = none ∧ a = 0) ∨ ∃ k, vl = some (.int k a)) ∧ (getIntO sh (l.length : Int) fun b => bif decide (0 ≤ a) && decide (a ≤ b) && decide (b ≤ l.length) then κ (.one (.fz ty ((l.drop a.toNat).take (b.toNat - a.toNat)))) [] else none) = some r := by
      rcases getIntO_ok h hl with ⟨rfl, h1⟩ | ⟨k, n, rfl, h1⟩
      · exact ⟨0, .inl ⟨rfl, rfl⟩, h1⟩
      · exact ⟨n, .inr ⟨k, rfl⟩, h1⟩
    obtain ⟨b, hb, h2⟩ : ∃ b, ((vh = none ∧ b = (l.length : Int)) ∨ ∃ k, vh = some (.int k b)) ∧ (bif decide (0 ≤ a) && decide (a ≤ b) && decide (b ≤ l.length) then κ (.one (.fz ty ((l.drop a.toNat).take (b.toNat - a.toNat)))) [] else none) = some r := by
      rcases getIntO_ok h1 hh with ⟨rfl, h1⟩ | ⟨k, n, rfl, h1⟩
      · exact ⟨_, .inl ⟨rfl, rfl⟩, h1⟩
      · exact ⟨n, .inr ⟨k, rfl⟩, h1⟩
    obtain ⟨hc, h3⟩ := bif_some h2
    simp only [Bool.and_eq_true, decide_eq_true_eq] at hc
    obtain ⟨⟨c0, c1⟩, c2⟩ := hc
    have e1 : (b.toNat : Int) = b := Int.toNat_of_nonneg (by omega)
    have hlen : ((l.drop a.toNat).take (b.toNat - a.toNat)).length = b.toNat - a.toNat := by rw [List.length_take, List.length_drop]; omega
    rcases hx with ⟨⟨q, rfl⟩, rfl⟩ | ⟨bb, off, cap, xs, rfl, hle, hr, hcell, hF⟩
    · have ea : a = 0 := by simp at c2; omega
      have eb : b = 0 := by simp at c2; omega
      subst ea; subst eb
      have hb' : (vh = none ∧ (0 : Int) = ((0 : Nat) : Int)) ∨ ∃ k, vh = some (.int k 0) := by
        rcases hb with ⟨h, _⟩ | h
        · exact .inl ⟨h, rfl⟩
        · exact .inr h
      have hbd := run_bounds (w := w) (P := C.P) true 0 0 ha hb' (Int.le_refl _) (Int.le_refl _) (Int.le_refl _)
      refine Good.pure I (v := .slice q 0 0) ?_ h3 (.inl ⟨⟨_, rfl⟩, by simp⟩)
      cases q <;> simp [Instr.sliceAt, Instr.slice, run_underlying hu, hbd, sizeOf, typeInfo, hi]
    · have hbd := run_bounds (w := w) (P := C.P) true l.length cap ha hb c0 c1 (by omega)
      have hsz' : (sizeOf e).run C.P w = .ok ty.nc w := by
        simp [sizeOf, typeInfo, hi, hnc]
      refine Good.pure I (v := .slice (some (if cap = a.toNat then ⟨bb, off, none⟩ else ⟨bb, off + a.toNat * ty.nc, none⟩)) (b.toNat - a.toNat) (cap - a.toNat)) ?_ h3 ?_
      · simp only [Instr.sliceAt, Instr.slice, Sem.run_bind, run_underlying hu, Result.andThen_ok, hbd, hsz', Sem.run_pure]
        congr 2
        split <;> simp [addr_add]
      · show sliceRel _ _ _ _ _
        have hr2 := rows.take ty.cells_len (b.toNat - a.toNat) (rows.drop ty.cells_len a.toNat hr)
        by_cases hcap : cap = a.toNat
        · rw [if_pos hcap]
          have hz : b.toNat - a.toNat = 0 := by omega
          exact .inr ⟨bb, off, cap - a.toNat, [], by rw [hlen], by rw [hlen]; omega, by rw [hz]; simp [rows], by simp, .inl rfl⟩
        · rw [if_neg hcap]
          refine .inr ⟨bb, off + a.toNat * ty.nc, cap - a.toNat, _, by rw [hlen], by rw [hlen]; omega, hr2, ?_, ?_⟩
          · intro j c hj
            rw [List.getElem?_take] at hj
            split at hj
            · rw [List.getElem?_drop] at hj
              have := hcell _ c hj
              rw [Nat.add_assoc]; exact this
            · cases hj
          · rcases hF with rfl | hF
            · left; simp
            · exact .inr hF
  · rename_i e i hu
    split at h
    · rename_i e' ty l hlk
      obtain ⟨hsz, h0⟩ := bif_some h
      clear h
      obtain ⟨ti, hi, hnc⟩ := sizeIs_ok hsz
      obtain ⟨a, ha, h1⟩ : ∃ a, ((vl = none ∧ a = 0) ∨ ∃ k, vl = some (.int k a)) ∧ (getIntO sh (l.length : Int) fun b => bif decide (0 ≤ a) && decide (a ≤ b) && decide (b ≤ l.length) then κ (.one (.vw i ty.nc a.toNat (b.toNat - a.toNat))) [] else none) = some r := by
        rcases getIntO_ok h0 hl with ⟨rfl, h1⟩ | ⟨k, n, rfl, h1⟩
        · exact ⟨0, .inl ⟨rfl, rfl⟩, h1⟩
        · exact ⟨n, .inr ⟨k, rfl⟩, h1⟩
      obtain ⟨b, hb, h2⟩ : ∃ b, ((vh = none ∧ b = (l.length : Int)) ∨ ∃ k, vh = some (.int k b)) ∧ (bif decide (0 ≤ a) && decide (a ≤ b) && decide (b ≤ l.length) then κ (.one (.vw i ty.nc a.toNat (b.toNat - a.toNat))) [] else none) = some r := by
        rcases getIntO_ok h1 hh with ⟨rfl, h1⟩ | ⟨k, n, rfl, h1⟩
        · exact ⟨_, .inl ⟨rfl, rfl⟩, h1⟩
        · exact ⟨n, .inr ⟨k, rfl⟩, h1⟩
      obtain ⟨hc, h3⟩ := bif_some h2
      simp only [Bool.and_eq_true, decide_eq_true_eq] at hc
      obtain ⟨⟨c0, c1⟩, c2⟩ := hc
      have e1 : (b.toNat : Int) = b := Int.toNat_of_nonneg (by omega)
      obtain ⟨hx, _⟩ := hx
      subst hx
      obtain ⟨xs, ho, hr⟩ := I.objs _ (look_mem (hsub _ _ hlk))
      simp only at ho hr
      have hsz' : (sizeOf e).run C.P w = .ok ty.nc w := by simp [sizeOf, typeInfo, hi, hnc]
      rcases ho.2 with ⟨h4, h5⟩ | ⟨g, cap, cur, h4, _, _, hle, _⟩
      · have ea : a = 0 := by rw [h5] at c2; simp at c2; omega
        have eb : b = 0 := by rw [h5] at c2; simp at c2; omega
        subst ea; subst eb
        have hb' : (vh = none ∧ (0 : Int) = ((0 : Nat) : Int)) ∨ ∃ k, vh = some (.int k 0) := by
          rcases hb with ⟨h, _⟩ | h
          · exact .inl ⟨h, rfl⟩
          · exact .inr h
        have hbd := run_bounds (w := w) (P := C.P) true 0 0 ha hb' (Int.le_refl _) (Int.le_refl _) (Int.le_refl _)
        refine Good.pure I (v := .slice none 0 0) ?_ h3 (.inl ⟨h4, rfl, by simp, by simp⟩)
        rw [h4]
        simp [Instr.sliceAt, Instr.slice, run_underlying hu, hbd, hsz']
      · have hbd := run_bounds (w := w) (P := C.P) true l.length cap ha hb c0 c1 (by omega)
        refine Good.pure I (v := .slice (some (if cap = a.toNat then ⟨g, 0, none⟩ else ⟨g, 0 + a.toNat * ty.nc, none⟩)) (b.toNat - a.toNat) (cap - a.toNat)) ?_ h3 ?_
        · rw [h4]
          simp only [Instr.sliceAt, Instr.slice, Sem.run_bind, run_underlying hu, Result.andThen_ok, hbd, hsz', Sem.run_pure]
          congr 2
          split <;> simp [addr_add]
        · refine .inr ?_
          by_cases hcap : cap = a.toNat
          · rw [if_pos hcap]
            exact ⟨g, 0, l.length, cap, cap - a.toNat, h4, rfl, by omega, by omega, .inr (by omega), fun h => ⟨by omega, rfl⟩⟩
          · rw [if_neg hcap]
            exact ⟨g, 0 + a.toNat * ty.nc, l.length, cap, cap - a.toNat, h4, rfl, by omega, by omega, .inl (by omega), fun h => ⟨by omega, by simp [h]⟩⟩
    · cases h
  · rename_i e hu
    obtain ⟨hsz, h0⟩ := bif_some h
    obtain ⟨ti, hi⟩ := Option.isSome_iff_exists.1 hsz
    obtain ⟨a, ha, h1⟩ : ∃ a, ((vl = none ∧ a = 0) ∨ ∃ k, vl = some (.int k a)) ∧ (getIntO sh (0 : Int) fun b => bif decide (0 ≤ a) && decide (a ≤ b) && decide (b ≤ 0) then κ (.at (.slice none 0 0)) [] else none) = some r := by
      rcases getIntO_ok h0 hl with ⟨rfl, h1⟩ | ⟨k, n, rfl, h1⟩
      · exact ⟨0, .inl ⟨rfl, rfl⟩, h1⟩
      · exact ⟨n, .inr ⟨k, rfl⟩, h1⟩
    obtain ⟨b, hb, h2⟩ : ∃ b, ((vh = none ∧ b = ((0 : Nat) : Int)) ∨ ∃ k, vh = some (.int k b)) ∧ (bif decide (0 ≤ a) && decide (a ≤ b) && decide (b ≤ 0) then κ (.at (.slice none 0 0)) [] else none) = some r := by
      rcases getIntO_ok h1 hh with ⟨rfl, h1⟩ | ⟨k, n, rfl, h1⟩
      · exact ⟨_, .inl ⟨rfl, rfl⟩, h1⟩
      · exact ⟨n, .inr ⟨k, rfl⟩, h1⟩
    obtain ⟨hc, h3⟩ := bif_some h2
    simp only [Bool.and_eq_true, decide_eq_true_eq] at hc
    obtain ⟨⟨c0, c1⟩, c2⟩ := hc
    have ea : a = 0 := by omega
    have eb : b = 0 := by omega
    subst ea; subst eb
    cases hx
    have hbd := run_bounds (w := w) (P := C.P) true 0 0 ha hb (Int.le_refl _) (Int.le_refl _) (Int.le_refl _)
    refine Good.pure I (v := .slice none 0 0) ?_ h3 (rfl : _ = _)
    simp [Instr.sliceAt, Instr.slice, run_underlying hu, hbd, sizeOf, typeInfo, hi]
  · rename_i n e ty x j hu
    split at h
    · rename_i et hty
      rw [Option.bind_eq_some_iff] at h
      obtain ⟨l, hl', h1⟩ := h
      obtain ⟨b, o, cs, rfl, hcs, hm, hF⟩ := hx
      have hdrop := (enc_ok (hd := hd) ty x cs hcs).drop j
      obtain ⟨hlen, xs, rr, hxs, hr⟩ := decMany_ok et n _ l _ hl' hdrop
      obtain ⟨ti, hi, hn, _, _⟩ := tyIn_nc hty
      have hnone : ∀ (so : Option SS) (vo : Option Value), so = none → ((so = none ∧ vo = none) ∨ ∃ s v, so = some s ∧ vo = some v ∧ SSRel w (C.F hd S) hd s v) → vo = none := by
        rintro so vo rfl (⟨_, h⟩ | ⟨s, v, h, _⟩)
        · exact h
        · cases h
      have e1 := hnone _ _ rfl hl
      have e2 := hnone _ _ rfl hh
      subst e1; subst e2
      have hbd := run_bounds (w := w) (P := C.P) false n n (.inl ⟨rfl, rfl⟩) (.inl ⟨rfl, rfl⟩) (Int.le_refl _) (by omega) (Int.le_refl _)
      refine Good.pure I (v := .slice (some ⟨b, o + j, none⟩) n n) ?_ h1 ?_
      · simp only [Instr.sliceAt, Sem.run_bind, run_underlying hu, Result.andThen_ok, Instr.sureAddr, Sem.run_pure, hbd, sizeOf, typeInfo, run_program, hi]
        simp
        intro _
        simp [Addr.add]
      · refine .inr ⟨b, o + j, n, xs, by rw [hlen], by omega, hr, ?_, ?_⟩
        · intro k c hk
          have : cs[j + k]? = some c := by
            have := congrArg (·[k]?) hxs
            simp only [List.getElem?_drop] at this
            rw [this, List.getElem?_append]
            have hlt : k < xs.length := by
              rcases Nat.lt_or_ge k xs.length with h | h
              · exact h
              · rw [List.getElem?_eq_none h] at hk; cases hk
            rw [if_pos hlt]; exact hk
          have := hm _ c this
          rw [Nat.add_assoc]; exact this
        · rcases hF with rfl | hF
          · left
            simp only [List.drop_nil] at hxs
            exact (List.append_eq_nil_iff.1 hxs.symm).1
          · exact .inr hF
    · cases h
  · rename_i n e i o hu
    split at h
    · rename_i et hty
      obtain ⟨b, hb, rfl⟩ := hx
      obtain ⟨ti, hi, hn, _, _⟩ := tyIn_nc hty
      have hnone : ∀ (so : Option SS) (vo : Option Value), so = none → ((so = none ∧ vo = none) ∨ ∃ s v, so = some s ∧ vo = some v ∧ SSRel w (C.F hd S) hd s v) → vo = none := by
        rintro so vo rfl (⟨_, h⟩ | ⟨s, v, h, _⟩)
        · exact h
        · cases h
      have e1 := hnone _ _ rfl hl
      have e2 := hnone _ _ rfl hh
      subst e1; subst e2
      have hbd := run_bounds (w := w) (P := C.P) false n n (.inl ⟨rfl, rfl⟩) (.inl ⟨rfl, rfl⟩) (Int.le_refl _) (by omega) (Int.le_refl _)
      refine Good.pure I (v := .slice (some ⟨b, o, none⟩) n n) ?_ h ⟨b, hb, rfl⟩
      simp only [Instr.sliceAt, Sem.run_bind, run_underlying hu, Result.andThen_ok, Instr.sureAddr, Sem.run_pure, hbd, sizeOf, typeInfo, run_program, hi]
      simp
      intro _
      simp [Addr.add]
    · cases h
  · rename_i n e i k a j hu
    split at h
    · rename_i et hty
      obtain ⟨b, L, cc, hb, rfl⟩ := hx
      obtain ⟨ti, hi, hn, _, _⟩ := tyIn_nc hty
      have hnone : ∀ (so : Option SS) (vo : Option Value), so = none → ((so = none ∧ vo = none) ∨ ∃ s v, so = some s ∧ vo = some v ∧ SSRel w (C.F hd S) hd s v) → vo = none := by
        rintro so vo rfl (⟨_, h⟩ | ⟨s, v, h, _⟩)
        · exact h
        · cases h
      have e1 := hnone _ _ rfl hl
      have e2 := hnone _ _ rfl hh
      subst e1; subst e2
      have hbd := run_bounds (w := w) (P := C.P) false n n (.inl ⟨rfl, rfl⟩) (.inl ⟨rfl, rfl⟩) (Int.le_refl _) (by omega) (Int.le_refl _)
      refine Good.pure I (v := .slice (some ⟨b, a * k + j, none⟩) n n) ?_ h ⟨b, L, cc, hb, rfl⟩
      simp only [Instr.sliceAt, Sem.run_bind, run_underlying hu, Result.andThen_ok, Instr.sureAddr, Sem.run_pure, hbd, sizeOf, typeInfo, run_program, hi]
      simp
      intro _
      simp [Addr.add]
    · cases h
  · cases h

theorem nthI_ok {α : Type} {l : List α} {n : Int} {x : α} (h : nthI l n = some x) : 0 ≤ n ∧ n < l.length ∧ l[n.toNat]? = some x := by
  unfold nthI at h
  obtain ⟨hb, h⟩ := bif_some h
  have h0 : 0 ≤ n := by simpa using hb
  refine ⟨h0, ?_, h⟩
  rcases Int.lt_or_le n l.length with h1 | h1
  · exact h1
  · rw [List.getElem?_eq_none (by omega)] at h; cases h

theorem indexAddr_good (I : Inv C hd S tmps w) (hsub : Sub lk S) {t : TypeId} {sx si : SS} {vx vi : Value} (hx : SSRel w (C.F hd S) hd sx vx) (hi : SSRel w (C.F hd S) hd si vi) {κ : SS → List Ef → Option R} {r : R}
    (h : indexAddr C.P lk t sx si (fun v => κ v []) = some r) : Good C S tmps κ r ((Instr.indexAt t vx vi).run C.P w) := by
  unfold indexAddr at h
  obtain ⟨k, n, rfl, h1⟩ := getInt_ok h hi
  clear h
  split at h1
  · rename_i e ty l hu
    obtain ⟨hsz, h2⟩ := bif_some h1
    clear h1
    obtain ⟨ti, hti, hnc⟩ := sizeIs_ok hsz
    rw [Option.bind_eq_some_iff] at h2
    obtain ⟨d, hd', h3⟩ := h2
    obtain ⟨h0, hlt, hget⟩ := nthI_ok hd'
    rcases hx with ⟨⟨q, rfl⟩, rfl⟩ | ⟨b, off, cap, xs, rfl, hle, hr, hcell, hF⟩
    · simp at hlt; omega
    · obtain ⟨c, hc, hat⟩ := hr.get ty.cells_len n.toNat d hget
      refine Good.pure I (v := .pointer (some ⟨b, off + n.toNat * ty.nc + 0, none⟩)) ?_ h3 ⟨b, off + n.toNat * ty.nc, c, rfl, hc, ?_, ?_⟩
      · simp [Instr.indexAt, asIntOf, run_underlying hu, h0, hlt, sizeOf, typeInfo, hti, hnc, addr_add]
      · intro i v hv
        have := hcell _ v (hat i v hv)
        rw [Nat.add_assoc]; exact this
      · rcases hF with rfl | hF
        · left
          cases c with
          | nil => rfl
          | cons v c => have := hat 0 v rfl; simp at this
        · exact .inr hF
  · rename_i e i hu
    split at h1
    · rename_i e' ty l hlk
      obtain ⟨hsz, h2⟩ := bif_some h1
      obtain ⟨ti, hti, hnc⟩ := sizeIs_ok hsz
      obtain ⟨hc, h3⟩ := bif_some h2
      simp only [Bool.and_eq_true, decide_eq_true_eq] at hc
      obtain ⟨hx, _⟩ := hx
      subst hx
      obtain ⟨xs, ho, hr⟩ := I.objs _ (look_mem (hsub _ _ hlk))
      simp only at ho hr
      rcases ho.2 with ⟨h4, h5⟩ | ⟨g, cap, cur, h4, _, _, hle, _⟩
      · omega
      · refine Good.pure I (v := .pointer (some ⟨g, n.toNat * ty.nc + 0, none⟩)) ?_ h3 ⟨g, l.length, cap, h4, rfl⟩
        rw [h4]
        simp [Instr.indexAt, asIntOf, run_underlying hu, hc, sizeOf, typeInfo, hti, hnc, addr_add]
    · cases h1
  · rename_i e i m off len hu
    obtain ⟨hsz, h2⟩ := bif_some h1
    obtain ⟨ti, hti, hnc⟩ := sizeIs_ok hsz
    obtain ⟨hc, h3⟩ := bif_some h2
    simp only [Bool.and_eq_true, decide_eq_true_eq] at hc
    rcases hx with ⟨_, rfl, _, rfl⟩ | ⟨b, o, L, C', cap, hb, rfl, hle, hoL, hoff, _⟩
    · omega
    · have hoff : o = off * m := by
        rcases hoff with h | h
        · exact h
        · omega
      subst hoff
      refine Good.pure I (v := .pointer (some ⟨b, off * m + n.toNat * m, none⟩)) ?_ h3 ⟨b, L, C', hb, by rw [Nat.add_mul]; simp⟩
      simp [Instr.indexAt, asIntOf, run_underlying hu, hc, sizeOf, typeInfo, hti, hnc, addr_add]
  · rename_i len e i o hu
    obtain ⟨hc, h3⟩ := bif_some h1
    simp only [Bool.and_eq_true, decide_eq_true_eq] at hc
    obtain ⟨ti, hti⟩ := Option.isSome_iff_exists.1 hc.1.1
    obtain ⟨b, hb, rfl⟩ := hx
    refine Good.pure I (v := .pointer (some ⟨b, o + n.toNat * C.P.cellsOf e, none⟩)) ?_ h3 ⟨b, hb, rfl⟩
    simp [Instr.indexAt, asIntOf, run_underlying hu, Instr.sureAddr, hc, sizeOf, typeInfo, hti, Program.cellsOf, addr_add]
  · rename_i len e ty d o hu
    obtain ⟨hc, h3⟩ := bif_some h1
    simp only [Bool.and_eq_true, decide_eq_true_eq] at hc
    obtain ⟨ti, hti⟩ := Option.isSome_iff_exists.1 hc.1.1
    obtain ⟨b, q, cs, rfl, hcs, hm, hF⟩ := hx
    refine Good.pure I (v := .pointer (some ⟨b, q + (o + n.toNat * C.P.cellsOf e), none⟩)) ?_ h3 ⟨b, q, cs, rfl, hcs, hm, hF⟩
    simp [Instr.indexAt, asIntOf, run_underlying hu, Instr.sureAddr, hc, sizeOf, typeInfo, hti, Program.cellsOf, addr_add, Nat.add_assoc]
  · cases h1

theorem unop_good (I : Inv C hd S tmps w) {op : UnOp} {sx : SS} {vx : Value} (hx : SSRel w (C.F hd S) hd sx vx) {κ : SS → List Ef → Option R} {r : R} (h : unop op sx (fun v => κ v []) = some r) :
    Good C S tmps κ r ((Op.unary op vx).run C.P w) := by
  unfold unop at h
  split at h
  · cases hx; exact Good.pure I (by simp [Op.unary]) h (rfl : _ = _)
  · cases hx; exact Good.pure I (by simp [Op.unary, Op.intArith]) h (rfl : _ = _)
  · cases h

end
end Go.Sh
