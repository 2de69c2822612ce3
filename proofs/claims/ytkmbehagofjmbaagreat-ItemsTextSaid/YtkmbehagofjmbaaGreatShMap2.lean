/-
  The shadow evaluator's operations are right, VIII: what is done with maps. No project text.
-/
import Derived.Test.YtkmbehagofjmbaaGreatShMap
namespace Go.Sh
open Go.ChangeMaps (setBlock)

section
variable {R : Type} {C : Ctx} {hd : Nat → Value} {S : St} {lk : Lk} {tmps : Array Value} {w : World}

theorem run_getObj_map {P : Program} {r : Nat} {es : Array MapEntry} {c : Nat} (h : w.heap[r]? = some (.map es c)) : (getObj r).run P w = .ok (.map es c) w := by
  simp [getObj, Sem.run, h]

theorem run_getObj_iter {P : Program} {r : Nat} {m : Option Nat} {s c : Nat} {seen : Array Nat} (h : w.heap[r]? = some (.mapIter m s seen c)) : (getObj r).run P w = .ok (.mapIter m s seen c) w := by
  simp [getObj, Sem.run, h]

theorem run_setObj_map {P : Program} {r : Nat} {es : Array MapEntry} {c : Nat} (h : w.heap[r]? = some (.map es c)) (o : Obj) : (setObj r o).run P w = .ok () (setBlock w r o) := by
  simp [setObj, Sem.run, h, setBlock]

theorem setBlock_at {r : Nat} {o o' : Obj} (h : w.heap[r]? = some o) : (setBlock w r o').heap[r]? = some o' := by
  have := (Array.getElem?_eq_some_iff.1 h).1
  simp [setBlock, this]

theorem setBlock_other {r b : Nat} {o : Obj} (h : b ≠ r) : (setBlock w r o).heap[b]? = w.heap[b]? := by
  simp [setBlock, Ne.symm h]

theorem on_setBlock (w : World) (r : Nat) (o : Obj) : On w (setBlock w r o) := ⟨rfl, rfl, rfl, by simp [setBlock]⟩
theorem on_drew (w : World) : On w w.drew := ⟨rfl, rfl, rfl, Nat.le_refl _⟩
theorem On.trans {w w' w'' : World} (h : On w w') (h' : On w' w'') : On w w'' := ⟨h'.os.trans h.os, h'.tape.trans h.tape, h'.output.trans h.output, Nat.le_trans h.size h'.size⟩

theorem keyDat_ok {F : Nat → Prop} {ka : Bool} {k : Ty} {s : SS} {x : k.den} {v : Value} (h : keyDat ka k s = some x) (hs : SSRel w F hd s v) : valRel w F ka k x v := by
  unfold keyDat at h
  split at h
  · obtain ⟨hk, h⟩ := bif_some h
    subst hk
    obtain ⟨cs, rfl, hl⟩ := hs
    exact ⟨cs, rfl, decAll_ok h hl⟩
  · obtain ⟨hk, h⟩ := bif_some' h
    subst hk
    exact decAll_ok (vs := [v]) h ⟨hs, trivial⟩
  · cases h

theorem zeroDat_ok {F : Nat → Prop} {P : Program} {t kt et : TypeId} {va : Bool} {v : Ty} {z : v.den} (hu : P.underlying t = some (.map kt et)) (h : zeroDat P t va v = some z) : ∃ zv, (zeroValue et).run P w = .ok zv w ∧ valRel w F va v z zv := by
  unfold zeroDat at h
  rw [hu] at h
  simp only at h
  split at h
  · rename_i i hi
    split at h
    · rename_i zv hz
      obtain ⟨ha, h⟩ := bif_some h
      have hc := decAll_ok (F := F) (hd := fun _ => undef) (w := w) h (all2_ofCells w F _ _)
      refine ⟨zv, by simp [zeroValue, typeInfo, hi, hz], ?_⟩
      cases zv <;> simp only [aggIs, Bool.not_eq_true'] at ha <;> first
        | (subst ha; exact ⟨_, rfl, hc⟩)
        | (subst ha; exact hc)
    · cases h
  · cases h

/-- A map as it lies: of no memory where it is nil. -/
def MapAt (w : World) (F : Nat → Prop) (ka va : Bool) (k v : Ty) (l : List (Nat × (k.den × v.den))) (c : Nat) (x : Value) (es : Array MapEntry) : Prop :=
  ((x = .map none ∧ es = #[] ∧ c = 0) ∨ ∃ r, x = .map (some r) ∧ w.heap[r]? = some (.map es c)) ∧ all2 (entRel w F ka va k v) l es.toList ∧ (∀ m ∈ es.toList, m.born < c) ∧ (es.toList.map (·.born)).Nodup

theorem map_at {F : Nat → Prop} {mt : TypeId} {ka va : Bool} {k v : Ty} {l : List (Nat × (k.den × v.den))} {c : Nat} {nl : Bool} {x : Value} (h : ObRel w F hd x (.map mt ka va k v l c nl)) :
    ∃ es, MapAt w F ka va k v l c x es := by
  rcases h with ⟨_, rfl, rfl, rfl⟩ | ⟨r, es, rfl, hg, hl, hb, hn⟩
  · exact ⟨#[], .inl ⟨rfl, rfl, rfl⟩, trivial, by simp, by simp⟩
  · exact ⟨es, .inr ⟨r, rfl, hg⟩, hl, hb, hn⟩

theorem mapLook_good (I : Inv C hd S tmps w) (hsub : Sub lk S) {t : TypeId} {sm sk : SS} {vm vk : Value} (hm : SSRel w (C.F hd S) hd sm vm) (hk : SSRel w (C.F hd S) hd sk vk) {ok : Bool} {κ : SS → List Ef → Option R} {r : R}
    (h : mapLook C.P lk t sm sk ok (fun v => κ v []) = some r) : Good C S tmps κ r ((Instr.lookup t vm vk ok).run C.P w) := by
  unfold mapLook at h
  split at h
  · rename_i i
    obtain ⟨rfl, _⟩ := hm
    split at h
    · rename_i mt ka va k v l c nl hlk
      obtain ⟨hc, h1⟩ := bif_some h
      clear h
      simp only [Bool.and_eq_true] at hc
      obtain ⟨hmt, hok⟩ := hc
      have hmt := Nat.eq_of_beq_eq_true hmt
      subst hmt
      obtain ⟨kt, et, hu, hkt, hka, hvt, hva, _, hpl⟩ := mapOk_ok hok
      split at h1
      · rename_i x z hx hz
        have hkr := keyDat_ok hx hk
        obtain ⟨zv, hzr, hzv⟩ := zeroDat_ok (F := C.F hd S) (w := w) hu hz
        obtain ⟨es, hat, hl, _, _⟩ := map_at (I.objs _ (look_mem (hsub _ _ hlk)))
        have hck := fun em => run_check hkt hka hkr em
        have hfk := run_find (vt := v) (va := va) hkt hka hpl hkr hl
        have hrun : ∃ val, (Instr.lookup mt (hd i) vk ok).run C.P w = .ok (if ok then .tuple #[val, .bool (mfind k x l).isSome] else val) w ∧ valRel w (C.F hd S) va v (mget k z x l) val := by
          have base : ∀ q : Option (Nat × Value), mfi k x l es.toList 0 = q → (Instr.lookup mt (hd i) vk ok).run C.P w = ((match q with | some (_, v) => pure (v, true) | none => do pure (← zeroValue et, false) : Sem (Value × Bool)).run C.P w).andThen fun p w' => .ok (if ok then .tuple #[p.1, .bool p.2] else p.1) w' := by
            intro q hq
            rw [hq] at hfk
            rcases hat with ⟨e, rfl, _⟩ | ⟨r, e, hg⟩
            · have e : hd i = .map none := e
              have hfk : (Instr.findKey kt vk []).run C.P w = .ok q w := hfk
              cases q <;> simp [Instr.lookup, run_underlying hu, e, hck, hfk, hzr]
            · have e : hd i = .map (some r) := e
              cases q <;> simp [Instr.lookup, run_underlying hu, e, run_getObj_map hg, hck, hfk, hzr]
          rcases mfi_spec (x := x) l es.toList 0 hl with ⟨e1, e2, _⟩ | ⟨j, e, m, e1, e2, _, he, _⟩
          · refine ⟨zv, by rw [base _ e1]; simp [e2, hzr], ?_⟩
            simp only [mget, e2]; exact hzv
          · refine ⟨m.val, by rw [base _ e1]; simp [e2], ?_⟩
            simp only [mget, e2]; exact he.2.2
        obtain ⟨val, hrun, hval⟩ := hrun
        cases ok with
        | true =>
          refine Good.pure I hrun h1 ⟨_, rfl, ?_⟩
          exact ⟨valCv_ok hval, rfl, trivial⟩
        | false => exact Good.pure I hrun h1 (valCv_ok hval)
      · cases h1
    · cases h
  · cases h

theorem Inv.setMap (I : Inv C hd S tmps w) {i r : Nat} {o : Ob} {m : Obj} (hm : ∃ o, (i, o) ∈ S.objs) (hi : hd i = .map (some r)) 
    (hob : Keeps w (setBlock w r m) (C.F hd S) (C.F hd S) → ObRel (setBlock w r m) (C.F hd S) hd (hd i) o) :
    Inv C hd { S with objs := setOb i o S.objs } tmps (setBlock w r m) :=
  (I.set i o (on_setBlock w r m) (fun b _ hnl => setBlock_other fun e => hnl ⟨hm, by rw [hi, e]; rfl⟩) hob).1

theorem nodup_push {l : List Nat} {c : Nat} (h : l.Nodup) (hc : ∀ x ∈ l, x < c) : (l ++ [c]).Nodup := by
  rw [List.nodup_append]
  refine ⟨h, by simp, ?_⟩
  intro a ha b hb
  simp at hb
  subst hb
  intro e
  have := hc a ha
  omega

theorem set_born {l : List MapEntry} {j : Nat} {m : MapEntry} {k v : Value} (h : l[j]? = some m) : (l.set j { m with key := k, val := v }).map (·.born) = l.map (·.born) := by
  rw [List.map_set]
  apply List.ext_getElem?
  intro i
  rw [List.getElem?_set]
  split
  · rename_i e
    subst e
    simp only [List.length_map, List.getElem?_map, h, Option.map_some]
    have := (List.getElem?_eq_some_iff.1 h).1
    simp [this]
  · rfl

theorem born_of_mem {l : List MapEntry} {c : Nat} (h : ∀ m ∈ l, m.born < c) : ∀ x ∈ l.map (·.born), x < c := by
  intro x hx
  obtain ⟨m, hm, rfl⟩ := List.mem_map.1 hx
  exact h m hm

theorem shape_val {F : Nat → Prop} {va : Bool} {v : Ty} {s : SS} {x : Value} {vs : List SV} {y : v.den} (hsh : shapeIs va s = true) (hc : cellsOf s = some vs) (hs : SSRel w F hd s x) {vs' : List SV} {F' : Nat → Prop} {hd' : Nat → Value} {cs : List Value}
    (hcs : cs = x.cells.toList) (hso : solids vs = true) (hv : all2 (SVRel w F' hd') vs' cs) (hd : decAll v vs' = some y) : valRel w F' va v y x := by
  subst hcs
  have h := decAll_ok hd hv
  cases s with
  | tup l => cases hc
  | val c =>
    cases c with
    | agg l =>
      simp only [shapeIs] at hsh
      subst hsh
      obtain ⟨cs, rfl, _⟩ := hs
      exact ⟨cs, rfl, h⟩
    | one sv =>
      simp only [shapeIs, Bool.not_eq_true'] at hsh
      subst hsh
      simp only [cellsOf, Option.some.injEq] at hc
      subst hc
      have h1 := SVRel.solid (v := sv) hs (by simpa [solids] using hso)
      have : x.cells = #[x] := by cases x <;> first | rfl | cases h1
      rw [this] at h
      exact h

theorem mem_setOb_same {i : Nat} {o : Ob} : ∀ {l : List (Nat × Ob)}, (∃ p, (i, p) ∈ l) → (i, o) ∈ setOb i o l
  | [], ⟨_, h⟩ => by simp at h
  | (j, q) :: l, ⟨p, h⟩ => by
    simp only [setOb]
    cases hb : Nat.beq j i with
    | true => have := Nat.eq_of_beq_eq_true hb; subst this; exact .head _
    | false =>
      rcases List.mem_cons.1 h with h | h
      · cases h; simp at hb
      · exact .tail _ (mem_setOb_same ⟨p, h⟩)

/-- A map stays where other objects are frozen. -/
theorem freezeAll_map (k : Nat) {mt : TypeId} {ka va : Bool} {kt vt : Ty} {l : List (Nat × (kt.den × vt.den))} {c : Nat} {nl : Bool} : ∀ {vs : List SV} {S : St} {gone : List Nat} {vs' : List SV} {es : List Ef}, freezeAll k lk gone vs = some (vs', es) →
    (k, Ob.map mt ka va kt vt l c nl) ∈ S.objs → (k, Ob.map mt ka va kt vt l c nl) ∈ (apps es S).objs := by
  have drop : ∀ (i : Nat), i ≠ k → ∀ (L : List (Nat × Ob)), (k, Ob.map mt ka va kt vt l c nl) ∈ L → (k, Ob.map mt ka va kt vt l c nl) ∈ killObjs i L := by
    intro i hi L
    induction L with
    | nil => intro h; simp at h
    | cons p L ih =>
      obtain ⟨j, o⟩ := p
      intro h
      simp only [killObjs]
      cases hb : Nat.beq j i with
      | true =>
        rcases List.mem_cons.1 h with h | h
        · cases h; exact absurd (Nat.eq_of_beq_eq_true hb).symm hi
        · exact ih h
      | false =>
        rcases List.mem_cons.1 h with h | h
        · cases h; exact .head _
        · exact .tail _ (ih h)
  intro vs
  induction vs with
  | nil => intro S gone vs' es h hm; simp only [freezeAll, Option.some.injEq, Prod.mk.injEq] at h; obtain ⟨_, rfl⟩ := h; exact hm
  | cons v vs ih =>
    intro S gone vs' es h hm
    have stay : ∀ v1 : SV, (freezeAll k lk gone vs).map (fun p => (v1 :: p.1, p.2)) = some (vs', es) → (k, Ob.map mt ka va kt vt l c nl) ∈ (apps es S).objs := by
      intro v1 h
      rw [Option.map_eq_some_iff] at h
      obtain ⟨⟨l', fs⟩, hf, he⟩ := h
      simp only [Prod.mk.injEq] at he
      obtain ⟨_, rfl⟩ := he
      exact ih hf hm
    have gon : ∀ (i : Nat) (v1 : SV), Nat.beq i k = false → (freezeAll k lk (i :: gone) vs).map (fun p => (v1 :: p.1, Ef.drop i :: p.2)) = some (vs', es) → (k, Ob.map mt ka va kt vt l c nl) ∈ (apps es S).objs := by
      intro i v1 hi h
      rw [Option.map_eq_some_iff] at h
      obtain ⟨⟨l', fs⟩, hf, he⟩ := h
      simp only [Prod.mk.injEq] at he
      obtain ⟨_, rfl⟩ := he
      exact ih (S := S.drop i) hf (drop i (beq_ne hi) _ hm)
    unfold freezeAll at h
    cases v with
    | «at» v => exact stay _ h
    | fz t l => exact stay _ h
    | own i =>
      simp only at h
      obtain ⟨hb, h⟩ := bif_some' h
      obtain ⟨hb1, _⟩ := or_false_of hb
      split at h
      · exact gon i _ hb1 h
      · cases h
    | vw i n off len =>
      simp only at h
      obtain ⟨hb, h⟩ := bif_some' h
      obtain ⟨hb1, _⟩ := or_false_of hb
      split at h
      · obtain ⟨_, h⟩ := bif_some h
        exact gon i _ hb1 h
      · cases h
    | ptr i o => cases h
    | ep i n a j => cases h
    | bs i off n t => cases h
    | es i n a j m t => cases h
    | fp t d j => cases h
    | dead => cases h

theorem mapSet_good (I : Inv C hd S tmps w) (hsub : Sub lk S) {t : TypeId} {sm sk sx : SS} {vm vk vx : Value} (hm : SSRel w (C.F hd S) hd sm vm) (hk : SSRel w (C.F hd S) hd sk vk) (hx : SSRel w (C.F hd S) hd sx vx) {κ : List Ef → Option R} {r : R}
    (h : mapSet C.P lk t sm sk sx κ = some r) : GoodU C S tmps κ r ((Instr.mapUpdate t vm vk vx).run C.P w) := by
  unfold mapSet at h
  split at h
  · rename_i i
    obtain ⟨rfl, _⟩ := hm
    split at h
    · rename_i mt ka va k v l c hlk
      obtain ⟨hc, h1⟩ := bif_some h
      clear h
      simp only [Bool.and_eq_true] at hc
      obtain ⟨⟨hmt, hok⟩, hsh⟩ := hc
      have hmt := Nat.eq_of_beq_eq_true hmt
      subst hmt
      obtain ⟨kt, et, hu, hkt, hka, hvt, hva, _, hpl⟩ := mapOk_ok hok
      split at h1
      · rename_i a vs ha hvs
        obtain ⟨hso, h2⟩ := bif_some h1
        clear h1
        split at h2
        · rename_i vs' es0 hfz
          split at h2
          · rename_i y hy
            have hcells := cells_of_ss hx hvs hso
            obtain ⟨I1, hvs', kk, _⟩ := freezeAll_ok i rfl I (Has.of hsub) hcells hfz
            have hmem := look_mem (hsub _ _ hlk)
            have hmem1 := freezeAll_map i hfz hmem
            have hkr := keyDat_ok ha hk
            rcases I1.objs _ hmem1 with ⟨hf, _⟩ | ⟨rr, es, hi, hg, hl, hb, hn⟩
            · cases hf
            · simp only at hi
              have hkr1 := valRel.keep kk hkr
              have hval := shape_val (v := v) hsh hvs hx rfl hso hvs' hy
              have hck := run_check hkt hka hkr false
              have hfk := run_find (vt := v) (va := va) hkt hka hpl hkr1 hl
              rcases mfi_spec (x := a) l es.toList 0 hl with ⟨e1, e2, e3, _⟩ | ⟨j, e, m, e1, e2, e3, he, heq, hset, _⟩
              · have hrun : (Instr.mapUpdate mt (hd i) vk vx).run C.P w = .ok () (setBlock w rr (.map (es.push { key := vk, val := vx, born := c }) (c + 1))) := by
                  rw [hi]
                  simp only [Instr.mapUpdate, Sem.run_bind, run_underlying hu, Result.andThen_ok, run_getObj_map hg, hck, hfk, e1, run_setObj_map hg]
                have htk : mtick k c a l = c + 1 := by simp [mtick, e2]
                refine ⟨_, hd, es0 ++ [.set i (.map mt ka va k v (mput k c a y l) (mtick k c a l) false)], hrun, h2, ?_⟩
                rw [apps_append, htk]
                refine I1.setMap ⟨_, hmem1⟩ hi fun k2 => .inr ⟨rr, _, hi, setBlock_at hg, ?_, ?_, ?_⟩
                · rw [e3, Array.toList_push]
                  exact all2.mono (fun _ _ h => entRel.keep k2 h) (all2.app hl ⟨⟨rfl, hkr1, hval⟩, trivial⟩)
                · intro m' hm'
                  rw [Array.toList_push, List.mem_append] at hm'
                  rcases hm' with hm' | hm'
                  · have := hb m' hm'; omega
                  · simp at hm'; subst hm'; simp
                · rw [Array.toList_push, List.map_append]
                  exact nodup_push hn (born_of_mem hb)
              · obtain ⟨hsame, hbits⟩ := same_key hpl hkr1 he.2.1 heq
                have hj : es[j]? = some m := by simpa using e3
                have hmod : (es.modify j fun e => { e with key := vk, val := vx }).toList = es.toList.set j { m with key := vk, val := vx } := by
                  apply List.ext_getElem?
                  intro n
                  rw [Array.getElem?_toList, Array.getElem?_modify, List.getElem?_set]
                  by_cases hjn : j = n
                  · subst hjn
                    have h1 := (Array.getElem?_eq_some_iff.1 hj).1
                    have h2 := (Array.getElem?_eq_some_iff.1 hj).2
                    simp [h1, h2]
                  · simp [hjn]
                have hrun : (Instr.mapUpdate mt (hd i) vk vx).run C.P w = .ok () (setBlock w rr (.map (es.modify j fun e => { e with key := vk, val := vx }) c)) := by
                  rw [hi]
                  simp only [Instr.mapUpdate, Sem.run_bind, run_underlying hu, Result.andThen_ok, run_getObj_map hg, hck, hfk, e1, Nat.zero_add, hj, Option.map_some, Option.getD_some, Instr.keyThatStays, hbits, if_true, Sem.run_pure, run_setObj_map hg]
                have htk : mtick k c a l = c := by simp [mtick, e2]
                refine ⟨_, hd, es0 ++ [.set i (.map mt ka va k v (mput k c a y l) (mtick k c a l) false)], hrun, h2, ?_⟩
                rw [apps_append, htk]
                refine I1.setMap ⟨_, hmem1⟩ hi fun k2 => .inr ⟨rr, _, hi, setBlock_at hg, ?_, ?_, ?_⟩
                · rw [hmod]
                  exact all2.mono (fun _ _ h => entRel.keep k2 h) (hset c y _ ⟨he.1, hkr1, hval⟩)
                · intro m' hm'
                  have : m'.born ∈ (es.toList.set j { m with key := vk, val := vx }).map (·.born) := List.mem_map.2 ⟨m', by rw [← hmod]; exact hm', rfl⟩
                  rw [set_born e3] at this
                  exact born_of_mem hb _ this
                · rw [hmod, set_born e3]; exact hn
          · cases h2
        · cases h2
      · cases h1
    · cases h
  · cases h

theorem mapDel_good (I : Inv C hd S tmps w) (hsub : Sub lk S) {t ty : TypeId} {sm sk : SS} {vm vk : Value} (hm : SSRel w (C.F hd S) hd sm vm) (hk : SSRel w (C.F hd S) hd sk vk) {κ : SS → List Ef → Option R} {r : R}
    (h : mapDel C.P lk t sm sk (fun es => κ (.tup []) es) = some r) (rest : List TypeId) : Good C S tmps κ r ((Builtin.delete_ (t :: rest).toArray ty #[vm, vk]).run C.P w) := by
  unfold mapDel at h
  split at h
  · rename_i i
    obtain ⟨rfl, _⟩ := hm
    split at h
    · rename_i mt ka va k v l c nl hlk
      obtain ⟨hc, h1⟩ := bif_some h
      clear h
      simp only [Bool.and_eq_true] at hc
      obtain ⟨hmt, hok⟩ := hc
      have hmt := Nat.eq_of_beq_eq_true hmt
      subst hmt
      obtain ⟨kt, et, hu, hkt, hka, hvt, hva, _, hpl⟩ := mapOk_ok hok
      split at h1
      · rename_i a ha
        have hkr := keyDat_ok ha hk
        have hmem := look_mem (hsub _ _ hlk)
        have hI := I.objs _ hmem
        rcases hI with ⟨hf, hi, rfl, rfl⟩ | ⟨rr, es, hi, hg, hl, hb, hn⟩
        · simp only at hi
          refine ⟨.tuple #[], w, hd, _, _, ?_, h1, (I.set i (.map mt ka va k v (mdel k a []) 0 nl) (On.refl w) (fun _ _ _ => rfl) fun _ => Or.inl ⟨hf, hi, rfl, rfl⟩).1, ⟨#[], rfl, trivial⟩⟩
          rw [hi]
          simp [Builtin.delete_, run_underlying hu, run_check hkt hka hkr true]
        · simp only at hi
          have hck := run_check hkt hka hkr es.isEmpty
          have hfk := run_find (vt := v) (va := va) hkt hka hpl hkr hl
          rcases mfi_spec (x := a) l es.toList 0 hl with ⟨e1, e2, _, e4⟩ | ⟨j, e, m, e1, e2, e3, he, heq, _, hdel⟩
          · refine ⟨.tuple #[], setBlock w rr (.map es c), hd, _, _, ?_, h1, I.setMap ⟨_, hmem⟩ hi fun k2 => .inr ⟨rr, es, hi, setBlock_at hg, ?_, hb, hn⟩, ⟨#[], rfl, trivial⟩⟩
            · rw [hi]
              simp [Builtin.delete_, run_underlying hu, run_getObj_map hg, hck, hfk, e1, run_setObj_map hg]
            · rw [e4]; exact all2.mono (fun _ _ h => entRel.keep k2 h) hl
          · have her : (es.eraseIdxIfInBounds j).toList = es.toList.eraseIdx j := by
              have := (Array.getElem?_eq_some_iff.1 (show es[j]? = some m by simpa using e3)).1
              simp [Array.eraseIdxIfInBounds, this]
            refine ⟨.tuple #[], setBlock w rr (.map (es.eraseIdxIfInBounds j) c), hd, _, _, ?_, h1, I.setMap ⟨_, hmem⟩ hi fun k2 => .inr ⟨rr, _, hi, setBlock_at hg, ?_, ?_, ?_⟩, ⟨#[], rfl, trivial⟩⟩
            · rw [hi]
              simp [Builtin.delete_, run_underlying hu, run_getObj_map hg, hck, hfk, e1, run_setObj_map hg]
            · rw [her]; exact all2.mono (fun _ _ h => entRel.keep k2 h) hdel
            · intro m' hm'
              rw [her] at hm'
              exact hb m' (List.mem_of_mem_eraseIdx hm')
            · rw [her]
              exact List.Sublist.nodup ((List.eraseIdx_sublist _ _).map _) hn
      · cases h1
    · cases h
  · cases h

theorem makeMap_good (I : Inv C hd S tmps w) {d : Nat} {t : TypeId} {κ : SS → List Ef → Option R} {r : R} (h : makeMap C.P d t κ = some r) :
    Good C S tmps κ r (.ok (.map (some w.heap.size)) (w.alloc (.map #[] 0))) := by
  unfold makeMap at h
  split at h
  · split at h
    · rename_i k ka v va _ _ _ _
      obtain ⟨_, h⟩ := bif_some h
      obtain ⟨I', _⟩ := I.renew (w' := w.alloc (.map #[] 0)) d (.map t ka va k v [] 0 false) (.map (some w.heap.size)) (on_alloc _ _)
        (fun b hb => by simp [blk] at hb; exact .inl (by omega)) (fun b hb _ => RowKit.Below.heap_alloc w _ b hb)
        (fun F' _ => .inr ⟨w.heap.size, #[], rfl, heap_alloc_new w _, trivial, by simp, by simp⟩)
      exact ⟨_, _, _, _, _, rfl, h, I', ⟨(upd_same _ _ _).symm, rfl⟩⟩
    · cases h
  · cases h

theorem mapRange_good (I : Inv C hd S tmps w) (hsub : Sub lk S) {d : Nat} {t : TypeId} {sm : SS} {vm : Value} (hm : SSRel w (C.F hd S) hd sm vm) {κ : SS → List Ef → Option R} {r : R} (h : mapRange C.P lk d t sm κ = some r) :
    Good C S tmps κ r ((Instr.range t vm).run C.P w) := by
  unfold mapRange at h
  split at h
  · rename_i kt et i hu
    obtain ⟨rfl, _⟩ := hm
    split at h
    · rename_i mt ka va k v l c nl hlk
      obtain ⟨hid, h⟩ := bif_some' h
      have hne : i ≠ d := beq_ne hid
      have hmem := look_mem (hsub _ _ hlk)
      have mk : ∀ it : Obj, ((hd i = .map none ∧ it = .mapIter none 0 #[] 0) ∨ ∃ r, hd i = .map (some r) ∧ it = .mapIter (some r) c #[] c) →
          ∃ hd', Inv C hd' (S.renew d (.iter i c [])) tmps (w.alloc it) ∧ SSRel (w.alloc it) (C.F hd' (S.renew d (.iter i c []))) hd' (.one (.ptr d 0)) (.pointer (some ⟨w.heap.size, 0, none⟩)) := by
        intro it hit
        obtain ⟨I', _⟩ := I.renew (w' := w.alloc it) d (.iter i c []) (.pointer (some ⟨w.heap.size, 0, none⟩)) (on_alloc _ _)
          (fun b hb => by simp [blk] at hb; exact .inl (by omega)) (fun b hb _ => RowKit.Below.heap_alloc w _ b hb)
          (fun F' _ => by
            refine ⟨w.heap.size, rfl, ?_⟩
            rw [upd_ne _ hne]
            rcases hit with ⟨e, rfl⟩ | ⟨r, e, rfl⟩
            · exact .inl ⟨e, heap_alloc_new w _⟩
            · exact .inr ⟨r, e, heap_alloc_new w _⟩)
        exact ⟨_, I', ⟨w.heap.size, upd_same _ _ _, rfl⟩⟩
      rcases I.objs _ hmem with ⟨_, hi, rfl, rfl⟩ | ⟨rr, es, hi, hg, _⟩
      · simp only at hi
        obtain ⟨hd', I', hs⟩ := mk _ (.inl ⟨hi, rfl⟩)
        refine ⟨_, _, hd', _, _, ?_, h, I', hs⟩
        rw [hi]
        simp [Instr.range, run_underlying hu, newObj]; first | done | rfl
      · simp only at hi
        obtain ⟨hd', I', hs⟩ := mk _ (.inr ⟨rr, hi, rfl⟩)
        refine ⟨_, _, hd', _, _, ?_, h, I', hs⟩
        rw [hi]
        simp [Instr.range, run_underlying hu, run_getObj_map hg, newObj]; first | done | rfl
    · cases h
  · cases h

end
end Go.Sh
