/-
  The shadow evaluator's operations are right, X: clear, and the comparison of bytes. No project text.
-/
import Derived.Test.YtkmbehagofjmbaaGreatShMap3
namespace Go.Sh

section
variable {R : Type} {C : Ctx} {hd : Nat → Value} {S : St} {lk : Lk} {tmps : Array Value} {w : World}

/-- Elements of a list of the call's own are laid over by equal ones. -/
theorem fill_part (I : Inv C hd S tmps w) {i a n q cc L : Nat} {e : TypeId} {ty : Ty} {l : List ty.den} (hm : (i, Ob.arr e ty l) ∈ S.objs) (hb : hd i = .slice (some ⟨q, 0, none⟩) L cc) (han : a + n ≤ l.length)
    {zd : ty.den} {zv : List Value} (hz : ty.cells w (C.F hd S) zd zv) :
    ∃ cur, w.heap[q]? = some (.cells cur e (0, 0)) ∧ a * ty.nc + n * ty.nc ≤ cur.size ∧
      Inv C hd { S with objs := setOb i (.arr e ty (l.take a ++ List.replicate n zd ++ l.drop (a + n))) S.objs } tmps
        (w.setRow q (cur.toList.take (a * ty.nc) ++ (List.replicate n zv).flatten ++ cur.toList.drop (a * ty.nc + n * ty.nc)).toArray) := by
  obtain ⟨xs, ho, hr⟩ := I.objs _ hm
  simp only at ho
  rw [hb] at ho
  rcases ho.2 with ⟨h0, _⟩ | ⟨g, cap, cur, h0, _, hg, hle, hcm, hcs, htake⟩
  · cases h0
  · simp only [Value.slice.injEq, Option.some.injEq, Addr.mk.injEq, and_true] at h0
    obtain ⟨rfl, rfl, rfl⟩ := h0
    have hxl : xs.length = l.length * ty.nc := ho.1
    have hle2 : l.length * ty.nc ≤ cur.size := by rw [hcs]; exact Nat.mul_le_mul_right _ hle
    have han2 : a * ty.nc + n * ty.nc ≤ l.length * ty.nc := by rw [← Nat.add_mul]; exact Nat.mul_le_mul_right _ han
    have hlies : Lies hd S i q := ⟨⟨_, hm⟩, by rw [hb]; rfl⟩
    have hlen : (List.replicate n zv).flatten.length = n * ty.nc := by simp [ty.cells_len _ _ hz]
    have hnl : (l.take a ++ List.replicate n zd ++ l.drop (a + n)).length = l.length := by simp; omega
    have hcur : cur.toList = xs ++ cur.toList.drop (l.length * ty.nc) := by
      conv => lhs; rw [← List.take_append_drop (l.length * ty.nc) cur.toList, htake]
    have hrow : cur.toList.take (a * ty.nc) ++ (List.replicate n zv).flatten ++ cur.toList.drop (a * ty.nc + n * ty.nc) =
        (xs.take (a * ty.nc) ++ (List.replicate n zv).flatten ++ xs.drop ((a + n) * ty.nc)) ++ cur.toList.drop (l.length * ty.nc) := by
      have t1 : cur.toList.take (a * ty.nc) = xs.take (a * ty.nc) := by
        rw [hcur, List.take_append_of_le_length (by omega)]
      have t2 : cur.toList.drop (a * ty.nc + n * ty.nc) = xs.drop ((a + n) * ty.nc) ++ cur.toList.drop (l.length * ty.nc) := by
        conv => lhs; rw [hcur]
        rw [Nat.add_mul, List.drop_append_of_le_length (by omega)]
      rw [t1, t2]; simp [List.append_assoc]
    have hl2 : (xs.take (a * ty.nc) ++ (List.replicate n zv).flatten ++ xs.drop ((a + n) * ty.nc)).length = l.length * ty.nc := by
      simp only [List.length_append, List.length_take, List.length_drop, hlen, Nat.add_mul]
      omega
    obtain ⟨I', _⟩ := I.set (w' := w.setRow q (cur.toList.take (a * ty.nc) ++ (List.replicate n zv).flatten ++ cur.toList.drop (a * ty.nc + n * ty.nc)).toArray) i (.arr e ty (l.take a ++ List.replicate n zd ++ l.drop (a + n))) (on_setRow _ _ _)
      (fun b' _ hnl => setRow_other w q b' _ (fun e => hnl (e ▸ hlies)))
      (fun kk => by
        refine ⟨xs.take (a * ty.nc) ++ (List.replicate n zv).flatten ++ xs.drop ((a + n) * ty.nc), ?_,
          rows.mono (ty.cells_keep kk) (rows.app (rows.app (rows.take ty.cells_len a hr) (rows.replicate hz n)) (rows.drop ty.cells_len (a + n) hr))⟩
        refine ⟨by rw [hnl]; exact hl2, .inr ⟨q, cc, _, by rw [hb, hnl], Nat.zero_le _, setRow_heap w q cur _ e (0, 0) hg, by rw [hnl]; exact hle, hcm, ?_, ?_⟩⟩
        · have : (cur.toList.take (a * ty.nc) ++ (List.replicate n zv).flatten ++ cur.toList.drop (a * ty.nc + n * ty.nc)).length = cur.size := by
            simp only [List.length_append, List.length_take, List.length_drop, Array.length_toList, hlen]
            omega
          rw [List.size_toArray, this, hcs]
        · rw [hnl, hrow, ← hl2]
          exact List.take_left' rfl)
    exact ⟨cur, hg, by omega, I'⟩

theorem clearL_good (I : Inv C hd S tmps w) (hsub : Sub lk S) {t ty' : TypeId} {sv : SV} {vx : Value} (hx : SVRel w (C.F hd S) hd sv vx) {κ : SS → List Ef → Option R} {r : R} (h : clearL C.P lk t sv (fun es => κ (.tup []) es) = some r) :
    Good C S tmps κ r ((Builtin.clear_ #[t] ty' #[vx]).run C.P w) := by
  have main : ∀ (i a n : Nat) (e e' : TypeId) (ty : Ty) (l : List ty.den) (q cc L cap o : Nat) (z : List SV) (zd : ty.den), C.P.underlying t = some (.slice e) → (i, Ob.arr e' ty l) ∈ S.objs → Nat.beq e e' = true → sizeIs C.P e ty.nc = true → zeroCells C.P e = some z →
      decAll ty z = some zd → hd i = .slice (some ⟨q, 0, none⟩) L cc → a + n ≤ l.length → (o = a * ty.nc ∨ n = 0) → vx = .slice (some ⟨q, o, none⟩) n cap →
      κ (.tup []) [.set i (.arr e' ty (l.take a ++ List.replicate n zd ++ l.drop (a + n)))] = some r → Good C S tmps κ r ((Builtin.clear_ #[t] ty' #[vx]).run C.P w) := by
    intro i a n e e' ty l q cc L cap o z zd hu hm hee hsz hz hzd hb han ho hv hk
    have hee := Nat.eq_of_beq_eq_true hee
    subst hee
    obtain ⟨j, zv, hi, hzv, rfl, hzs⟩ := zeroCells_ok hz
    obtain ⟨j', hi', hs'⟩ := sizeIs_ok hsz
    rw [hi] at hi'
    simp only [Option.some.injEq] at hi'
    subst hi'
    have hzc := decAll_ok hzd (all2_ofCells w (C.F hd S) hd zv.cells.toList)
    obtain ⟨cur, hg, hfit, I'⟩ := fill_part I hm hb han hzc
    subst hv
    cases n with
    | zero =>
      have e1 : l.take a ++ List.replicate 0 zd ++ l.drop (a + 0) = l := by simp
      rw [e1] at hk I'
      have hw : (w.setRow q (cur.toList.take (a * ty.nc) ++ (List.replicate 0 zv.cells.toList).flatten ++ cur.toList.drop (a * ty.nc + 0 * ty.nc)).toArray) = w := by
        have : (cur.toList.take (a * ty.nc) ++ (List.replicate 0 zv.cells.toList).flatten ++ cur.toList.drop (a * ty.nc + 0 * ty.nc)).toArray = cur := by simp
        rw [this]; exact setRow_self hg
      rw [hw] at I'
      refine ⟨.tuple #[], w, hd, _, _, ?_, hk, I', ⟨#[], rfl, trivial⟩⟩
      simp [Builtin.clear_, run_underlying hu]
    | succ n =>
      have ho : o = a * ty.nc := by rcases ho with h | h; exact h; cases h
      subst ho
      refine ⟨.tuple #[], _, hd, _, _, ?_, hk, I', ⟨#[], rfl, trivial⟩⟩
      have hzl : (Builtin.zeroCells zv.cells (n + 1)).toList = (List.replicate (n + 1) zv.cells.toList).flatten := by
        unfold Builtin.zeroCells
        have := range_mod zv.cells j.size hzs (n + 1)
        rw [hzs]; exact this
      have hone : ∀ v ∈ (List.replicate (n + 1) zv.cells.toList).flatten, v.oneCell' = true := by
        intro v hv
        simp only [List.mem_flatten, List.mem_replicate] at hv
        obtain ⟨c, ⟨_, rfl⟩, hv⟩ := hv
        exact ty.cells_one _ _ hzc v hv
      have hl : (List.replicate (n + 1) zv.cells.toList).flatten.length = (n + 1) * ty.nc := by simp [hzs, hs']
      have hst := run_storeCells_at C.P q (a * ty.nc) e (List.replicate (n + 1) zv.cells.toList).flatten 0 cur w hg (by rw [hl]; simpa using hfit) hone
      simp only [Nat.add_zero, hl] at hst
      simp [Builtin.clear_, run_underlying hu, zeroValue, typeInfo, hi, hzv, hzl, hst]
  unfold clearL at h
  split at h
  · rename_i e i hu
    obtain ⟨rfl, _⟩ := hx
    split at h
    · rename_i e' ty l hlk
      split at h
      · rename_i z hc hz
        simp only [Bool.and_eq_true] at hc
        split at h
        · rename_i zd hzd
          have hm := look_mem (hsub _ _ hlk)
          obtain ⟨xs, ho, hr⟩ := I.objs _ hm
          simp only at ho
          rcases ho.2 with ⟨h1, h2⟩ | ⟨g, cap, cur, h1, _, hg, _⟩
          · have hl : l = [] := List.eq_nil_of_length_eq_zero h2
            subst hl
            refine ⟨.tuple #[], w, hd, _, _, ?_, h, ?_, ⟨#[], rfl, trivial⟩⟩
            · rw [h1]; simp [Builtin.clear_, run_underlying hu]
            · exact (I.set i (.arr e' ty (List.replicate ([] : List ty.den).length zd)) (On.refl w) (fun _ _ _ => rfl) fun _ => ⟨xs, ho, hr⟩).1
          · refine main i 0 l.length e e' ty l g cap l.length cap 0 z zd hu hm hc.1 hc.2 hz hzd h1 (by omega) (.inl (by simp)) h1 ?_
            simpa using h
        · cases h
      · cases h
    · cases h
  · rename_i e i n off len hu
    split at h
    · rename_i e' ty l hlk
      split at h
      · rename_i z hc hz
        simp only [Bool.and_eq_true] at hc
        obtain ⟨⟨hc1, hc2⟩, hc3⟩ := hc
        have hn := Nat.eq_of_beq_eq_true hc3
        subst hn
        split at h
        · rename_i zd hzd
          have hm := look_mem (hsub _ _ hlk)
          obtain ⟨xs, ho, hr⟩ := I.objs _ hm
          simp only at ho
          rcases hx with ⟨h1, rfl, rfl, rfl⟩ | ⟨b, o, L, C', cap, h1, rfl, hle, hoL, hoff, _⟩
          · refine ⟨.tuple #[], w, hd, _, _, ?_, h, ?_, ⟨#[], rfl, trivial⟩⟩
            · simp [Builtin.clear_, run_underlying hu]
            · have : l.take 0 ++ List.replicate 0 zd ++ l.drop (0 + 0) = l := by simp
              simp only [this]
              exact (I.set i (.arr e' ty l) (On.refl w) (fun _ _ _ => rfl) fun _ => ⟨xs, ho, hr⟩).1
          · have hL : L = l.length := by
              rcases ho.2 with ⟨h3, _⟩ | ⟨g, cap', cur, h3, _⟩
              · rw [h1] at h3; cases h3
              · rw [h1] at h3; simp only [Value.slice.injEq] at h3; exact h3.2.1
            exact main i off len e e' ty l b C' L cap o z zd hu hm hc1 hc2 hz hzd h1 (by omega) hoff rfl h
        · cases h
      · cases h
    · cases h
  · rename_i e hu
    cases hx
    exact Good.pure I (v := .tuple #[]) (by simp [Builtin.clear_, run_underlying hu]) h ⟨#[], rfl, trivial⟩
  · cases h

theorem run_loadBytes {P : Program} (a : Addr) : ∀ (l : List Int) (o : Nat) (acc : ByteArray), (∀ j v, l[j]? = some v → w.cell? (a.add (o + j)) = some (.int .u8 v)) →
    (Extern.Bytes.loadBytes (a.add o) l.length acc).run P w = .ok (l.foldl (fun r n => r.push (UInt8.ofNat n.toNat)) acc) w
  | [], o, acc, _ => by simp [Extern.Bytes.loadBytes]
  | n :: l, o, acc, h => by
    have h0 := h 0 n rfl
    have hadd : (a.add o).add 1 = a.add (o + 1) := by
      cases o with
      | zero => simp [Addr.add]
      | succ o => simp [Addr.add, Nat.add_assoc]
    have ih := run_loadBytes (P := P) a l (o + 1) (acc.push (UInt8.ofNat n.toNat)) (fun j v hj => by
      have := h (j + 1) v (by simpa using hj)
      rw [show o + 1 + j = o + (j + 1) by omega]; exact this)
    rw [Nat.add_zero] at h0
    have hld : (Go.load (a.add o)).run P w = .ok (.int .u8 n) w := by simp [Go.load, Sem.run, h0]
    simp only [List.length_cons, Extern.Bytes.loadBytes, Sem.run_bind, hld, Result.andThen_ok, hadd, List.foldl_cons]
    exact ih

theorem run_bytesOf (I : Inv C hd S tmps w) (hsub : Sub lk S) {sv : SV} {x : Value} {m : List Int} (h : listOf lk (.int .u8) sv = some m) (hx : SVRel w (C.F hd S) hd sv x) : (Extern.Bytes.bytesOf x).run C.P w = .ok (strOf m) w := by
  rcases source_ok I hsub h hx with ⟨rfl, rfl⟩ | ⟨a, cap, ys, rfl, _, hr, hc⟩
  · simp [Extern.Bytes.bytesOf, strOf]; rfl
  · have e1 := rows_bytes hr
    have := run_loadBytes (P := C.P) (w := w) a m 0 ByteArray.empty (fun j v hj => by
      rw [Nat.zero_add]
      exact hc j _ (by rw [e1]; simp [hj]))
    rw [strOf_eq] at this
    have ha : a.add 0 = a := rfl
    rw [ha] at this
    simpa [Extern.Bytes.bytesOf] using this

end
end Go.Sh
