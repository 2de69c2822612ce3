/-
  The shadow evaluator's operations are right, VII: maps, function values, values behind an interface. No project text.
-/
import Derived.Test.YtkmbehagofjmbaaGreatShRun5
import Derived.Maps.RangeRun
import Derived.WideKeyRuns
namespace Go.Sh
open Go.ChangeMaps (setBlock)

section key
variable {P : Program} {w : World} {F : Nat → Prop}

theorem encOne_ok {F' : Nat → Prop} {hd' : Nat → Value} : ∀ (t : Ty) (x : t.den) (v : Value), t.cells w F' x [v] → SVRel w F' hd' (encOne t x) v
  | .int _, _, _, h => by simp only [Ty.cells, List.cons.injEq, and_true] at h; exact h
  | .bool, _, _, h => by simp only [Ty.cells, List.cons.injEq, and_true] at h; exact h
  | .str, _, _, h => by simp only [Ty.cells, List.cons.injEq, and_true] at h; exact h
  | .sl t, _, _, ⟨u, h, hs⟩ => by simp only [List.cons.injEq, and_true] at h; subst h; exact hs
  | .un, _, _, _ => trivial
  | .pr _ _, _, _, _ => trivial

theorem valCv_ok {hd : Nat → Value} {agg : Bool} {t : Ty} {x : t.den} {v : Value} (h : valRel w F agg t x v) : CvRel w F hd (valCv agg t x) v := by
  cases agg with
  | true => obtain ⟨cs, rfl, h⟩ := h; exact ⟨cs, rfl, enc_ok t x _ h⟩
  | false => exact encOne_ok t x v h

/-- The same key, the same cells. -/
theorem plain_cells : ∀ (k : Ty), k.plain = true → ∀ (a b : k.den) (c d : List Value), k.cells w F a c → k.cells w F b d → eqTy k a b = true → c = d
  | .int _, _, a, b, c, d, hc, hd, h => by
    have : (a : Int) = b := by simpa [eqTy] using h
    cases hc; cases hd; rw [this]
  | .bool, _, a, b, c, d, hc, hd, h => by
    have : (a : Bool) = b := by simpa [eqTy] using h
    cases hc; cases hd; rw [this]
  | .un, _, _, _, c, d, hc, hd, _ => by cases hc; cases hd; rfl
  | .pr k1 k2, hp, a, b, c, d, ⟨c1, c2, e1, h1, h2⟩, ⟨d1, d2, e2, h3, h4⟩, h => by
    simp only [Ty.plain, Bool.and_eq_true] at hp
    simp only [eqTy, Bool.and_eq_true] at h
    rw [e1, e2, plain_cells k1 hp.1 _ _ _ _ h1 h3 h.1, plain_cells k2 hp.2 _ _ _ _ h2 h4 h.2]
  | .str, hp, _, _, _, _, _, _, _ => by simp [Ty.plain] at hp
  | .sl _, hp, _, _, _, _, _, _, _ => by simp [Ty.plain] at hp

theorem plain_scalar : ∀ (k : Ty), k.plain = true → ∀ (a : k.den) (c : List Value), k.cells w F a c → ∀ v ∈ c, (∃ j n, v = .int j n) ∨ ∃ b, v = .bool b
  | .int _, _, _, _, h, v, hv => by cases h; simp at hv; exact .inl ⟨_, _, hv⟩
  | .bool, _, _, _, h, v, hv => by cases h; simp at hv; exact .inr ⟨_, hv⟩
  | .un, _, _, _, h, v, hv => by cases h; simp at hv
  | .pr k1 k2, hp, a, c, ⟨c1, c2, e, h1, h2⟩, v, hv => by
    simp only [Ty.plain, Bool.and_eq_true] at hp
    rw [e, List.mem_append] at hv
    rcases hv with hv | hv
    · exact plain_scalar k1 hp.1 _ _ h1 v hv
    · exact plain_scalar k2 hp.2 _ _ h2 v hv
  | .str, hp, _, _, _, _, _ => by simp [Ty.plain] at hp
  | .sl _, hp, _, _, _, _, _ => by simp [Ty.plain] at hp

theorem same_refl {v : Value} (h : (∃ j n, v = .int j n) ∨ ∃ b, v = .bool b) (n : Nat) : Instr.sameBits n v v = true := by
  rcases h with ⟨j, m, rfl⟩ | ⟨b, rfl⟩ <;> cases n <;> simp [Instr.sameBits]

theorem same_key {ka : Bool} {k : Ty} (hp : k.plain = true) {a b : k.den} {u v : Value} (hu : valRel w F ka k a u) (hv : valRel w F ka k b v) (h : eqTy k a b = true) : u = v ∧ Instr.sameBits 10000 v u = true := by
  cases ka with
  | true =>
    obtain ⟨c, rfl, hc⟩ := hu
    obtain ⟨d, rfl, hd⟩ := hv
    have e := plain_cells k hp a b _ _ hc hd h
    have e' : c = d := Array.toList_inj.1 e
    subst e'
    refine ⟨rfl, ?_⟩
    have hs := plain_scalar k hp a _ hc
    simp only [Instr.sameBits, beq_self_eq_true, Bool.true_and, List.all_eq_true]
    intro p hp'
    have : ∀ (l : List Value) (p : Value × Value), p ∈ l.zip l → p.1 = p.2 ∧ p.1 ∈ l := by
      intro l
      induction l with
      | nil => intro p hp; simp at hp
      | cons x l ih =>
        intro p hp
        simp only [List.zip_cons_cons, List.mem_cons] at hp
        rcases hp with rfl | hp
        · exact ⟨rfl, .head _⟩
        · obtain ⟨h1, h2⟩ := ih p hp; exact ⟨h1, .tail _ h2⟩
    obtain ⟨h1, h2⟩ := this _ p hp'
    rw [← h1]
    exact same_refl (hs _ h2) _
  | false =>
    have e := plain_cells k hp a b _ _ hu hv h
    simp only [List.cons.injEq, and_true] at e
    subst e
    exact ⟨rfl, same_refl (plain_scalar k hp a _ hu u (.head _)) _⟩

theorem mapOk_ok {t : TypeId} {ka va : Bool} {k v : Ty} (h : mapOk P t ka va k v = true) : ∃ kt et, P.underlying t = some (.map kt et) ∧ eqTyOf P 12 kt = some k ∧ isAggT P kt = some ka ∧ tyIn P et = some v ∧ isAggT P et = some va ∧
    (va = true ∨ v.nc = 1) ∧ k.plain = true := by
  unfold mapOk at h
  split at h
  · rename_i kt et hu
    split at h
    · rename_i k' ka' v' va' h1 h2 h3 h4
      simp only [Bool.and_eq_true, decide_eq_true_eq, beq_iff_eq, Bool.or_eq_true] at h
      obtain ⟨⟨⟨⟨⟨rfl, rfl⟩, rfl⟩, rfl⟩, h5⟩, h6⟩ := h
      exact ⟨kt, et, hu, h1, h2, h3, h4, h5.imp id Nat.eq_of_beq_eq_true, h6⟩
    · cases h
  · cases h

theorem val_of_key {kt : TypeId} {k : Ty} {ka : Bool} (_h : eqTyOf P 12 kt = some k) (ha : isAggT P kt = some ka) {x : k.den} {v : Value} (hv : valRel w F ka k x v) : ∃ c, k.cells w F x c ∧ pval P kt c = v := by
  cases ka with
  | true =>
    obtain ⟨cs, rfl, hc⟩ := hv
    refine ⟨_, hc, ?_⟩
    have := isAggT_true ha
    unfold pval
    split at this <;> simp_all
  | false =>
    refine ⟨_, hv, ?_⟩
    unfold isAggT at ha
    unfold pval
    split at ha <;> simp_all

theorem run_checkKey_ty (em : Bool) : ∀ (d : Nat) (t : TypeId) (ty : Ty), eqTyOf P d t = some ty → ∀ (m : Nat), d ≤ m → ∀ (a : ty.den) (ca : List Value), ty.cells w F a ca →
    (Instr.checkKey em m t (pval P t ca)).run P w = .ok () w := by
  intro d
  induction d with
  | zero => intro t ty h; simp [eqTyOf] at h
  | succ d ih =>
    intro t ty h m hm a ca ha
    obtain ⟨m, rfl⟩ : ∃ k, m = k + 1 := ⟨m - 1, by omega⟩
    have hm' : d ≤ m := by omega
    have step : ∀ (e : TypeId) (x : Ty), eqTyOf P d e = some x → P.cellsOf e = x.nc → ∀ (xs : Array Value) (off : Nat) (a : x.den) (ca ra : List Value), x.cells w F a ca →
        xs.toList.drop off = ca ++ ra →
        (part e xs off).run P w = .ok (pval P e ca) w ∧ (Instr.checkKey em m e (pval P e ca)).run P w = .ok () w := by
      intro e x he hn xs off a ca ra ha hxs
      obtain ⟨hu, hi⟩ := underlying_some P d e x he
      have h1 := nc_pos_of_scalar P d e x he
      exact ⟨run_part e xs off x.nc hu hn hi ca (x.cells_len _ _ ha) h1 ⟨ra, hxs⟩, ih e x he m hm' a ca ha⟩
    unfold eqTyOf at h
    split at h
    · rename_i k hu
      simp [Instr.checkKey, run_underlying hu]
    · rename_i hu
      simp [Instr.checkKey, run_underlying hu]
    · rename_i hu
      simp [Instr.checkKey, run_underlying hu]
    · rename_i n e hu
      split at h
      · rename_i x hx
        cases hc : (Nat.beq (P.cellsOf e) x.nc && (P.info? e).isSome) with
        | false => simp [hc] at h
        | true =>
          simp only [hc, cond_true, Option.some.injEq] at h
          simp only [Bool.and_eq_true] at hc
          obtain ⟨hc1, hc2⟩ := hc
          have hn := Nat.eq_of_beq_eq_true hc1
          obtain ⟨i, hi⟩ := Option.isSome_iff_exists.1 hc2
          subst h
          simp only [pval, hu, Instr.checkKey, Sem.run_bind, run_underlying hu, Result.andThen_ok]
          simp only [Std.Legacy.Range.forIn_eq_forIn_range', Std.Legacy.Range.size, Nat.sub_zero, Nat.add_one_sub_one, Nat.div_one]
          have hsz : (sizeOf e).run P w = .ok (P.cellsOf e) w := by simp [sizeOf, typeInfo, hi, Program.cellsOf]
          have key : ∀ (n k : Nat) (a : (tyArr x n).den) (ca : List Value), (tyArr x n).cells w F a ca → ∀ (xs : Array Value), xs.toList.drop (k * P.cellsOf e) = ca →
              (forIn (List.range' k n) PUnit.unit fun i _ => do Instr.checkKey em m e (← part e xs (i * (← sizeOf e))); pure (ForInStep.yield PUnit.unit) : Sem PUnit).run P w = .ok () w := by
            intro n
            induction n with
            | zero => intro k a ca ha xs hxs; simp
            | succ n ihn =>
              intro k a ca ha xs hxs
              rw [List.range'_succ]
              cases n with
              | zero =>
                obtain ⟨p1, p2⟩ := step e x hx hn xs (k * P.cellsOf e) a ca [] ha (by simpa using hxs)
                simp only [List.forIn_cons, Sem.run_bind, hsz, Result.andThen_ok, p1, p2, Sem.run_pure, List.range'_zero, List.forIn_nil]
              | succ n =>
                obtain ⟨ca1, ca2, rfl, ha1, ha2⟩ := ha
                obtain ⟨p1, p2⟩ := step e x hx hn xs (k * P.cellsOf e) a.1 ca1 ca2 ha1 hxs
                have hd1 : xs.toList.drop ((k + 1) * P.cellsOf e) = ca2 := by
                  rw [Nat.add_mul, Nat.one_mul, ← List.drop_drop, hxs, hn, ← x.cells_len _ _ ha1, List.drop_left]
                have hr := ihn (k + 1) a.2 ca2 ha2 xs hd1
                simp only [List.forIn_cons, Sem.run_bind, hsz, Result.andThen_ok, p1, p2, Sem.run_pure]
                exact hr
          have := key n 0 a ca ha ca.toArray (by simp)
          rw [this]; simp
      · cases h
    · rename_i fs hu
      cases hst : P.stoodInHeld t with
      | true => simp [hst] at h
      | false =>
        simp only [hst, cond_false] at h
        simp only [pval, hu, Instr.checkKey, Sem.run_bind, run_underlying hu, Result.andThen_ok]
        rw [← Array.forIn_toList]
        have key : ∀ (l : List Field) (off : Nat) (ty : Ty), eqTyFields P (eqTyOf P d) l off = some ty → ∀ (a : ty.den) (ca : List Value), ty.cells w F a ca → ∀ (xs : Array Value),
            xs.toList.drop off = ca → (forIn l PUnit.unit fun f _ => if f.name ≠ "_" then (do Instr.checkKey em m f.type (← part f.type xs f.offset); pure (ForInStep.yield PUnit.unit)) else pure (ForInStep.yield PUnit.unit) : Sem PUnit).run P w = .ok () w := by
          intro l
          induction l with
          | nil => intro off ty h a ca ha xs hxs; simp
          | cons f l ihl =>
            intro off ty h a ca ha xs hxs
            cases l with
            | nil =>
              simp only [eqTyFields] at h
              split at h
              · rename_i x hx
                cases hc : (Nat.beq f.offset off && Nat.beq (P.cellsOf f.type) x.nc && f.name != "_") with
                | false => simp [hc] at h
                | true =>
                  simp only [hc, cond_true, Option.some.injEq] at h
                  subst h
                  simp only [Bool.and_eq_true] at hc
                  obtain ⟨⟨hc1, hc2⟩, hc3⟩ := hc
                  have ho := Nat.eq_of_beq_eq_true hc1
                  have hn := Nat.eq_of_beq_eq_true hc2
                  have hne : f.name ≠ "_" := by simpa using hc3
                  obtain ⟨p1, p2⟩ := step f.type x hx hn xs f.offset a ca [] ha (by rw [ho]; simpa using hxs)
                  simp only [List.forIn_cons, hne, ne_eq, not_false_eq_true, if_true, Sem.run_bind, p1, p2, Result.andThen_ok, Sem.run_pure, List.forIn_nil]
              · cases h
            | cons g l =>
              simp only [eqTyFields] at h
              split at h
              · rename_i x hx
                cases hc : (Nat.beq f.offset off && Nat.beq (P.cellsOf f.type) x.nc && f.name != "_") with
                | false => simp [hc] at h
                | true =>
                  simp only [hc, cond_true] at h
                  split at h
                  · rename_i y hy
                    simp only [Option.some.injEq] at h
                    subst h
                    simp only [Bool.and_eq_true] at hc
                    obtain ⟨⟨hc1, hc2⟩, hc3⟩ := hc
                    have ho := Nat.eq_of_beq_eq_true hc1
                    have hn := Nat.eq_of_beq_eq_true hc2
                    have hne : f.name ≠ "_" := by simpa using hc3
                    obtain ⟨ca1, ca2, rfl, ha1, ha2⟩ := ha
                    obtain ⟨p1, p2⟩ := step f.type x hx hn xs f.offset a.1 ca1 ca2 ha1 (by rw [ho]; exact hxs)
                    have hd1 : xs.toList.drop (off + x.nc) = ca2 := by rw [← List.drop_drop, hxs, ← x.cells_len _ _ ha1, List.drop_left]
                    have hr := ihl (off + x.nc) y hy a.2 ca2 ha2 xs hd1
                    rw [List.forIn_cons]
                    simp only [hne, ne_eq, not_false_eq_true, if_true, Sem.run_bind, p1, p2, Result.andThen_ok, Sem.run_pure]
                    exact hr
                  · cases h
              · cases h
        have := key _ 0 ty h a ca ha ca.toArray (by simp)
        rw [this]; simp
    · cases h

theorem run_check {kt : TypeId} {k : Ty} {ka : Bool} (h : eqTyOf P 12 kt = some k) (ha : isAggT P kt = some ka) {x : k.den} {v : Value} (hv : valRel w F ka k x v) (em : Bool) : (Instr.checkKey em 10000 kt v).run P w = .ok () w := by
  obtain ⟨c, hc, rfl⟩ := val_of_key h ha hv
  exact run_checkKey_ty em 12 kt k h 10000 (by omega) x c hc

/-- Where a key stands, and the value there. -/
def mfi (k : Ty) {v : Type} (x : k.den) : List (Nat × (k.den × v)) → List MapEntry → Nat → Option (Nat × Value)
  | e :: l, m :: es, i => bif eqTy k x e.2.1 then some (i, m.val) else mfi k x l es (i + 1)
  | _, _, _ => none

theorem run_equal_key {kt : TypeId} {k : Ty} {ka : Bool} (h : eqTyOf P 12 kt = some k) (ha : isAggT P kt = some ka) {x y : k.den} {u v : Value} (hu : valRel w F ka k x u) (hv : valRel w F ka k y v) : (Op.equal kt u v).run P w = .ok (eqTy k x y) w := by
  obtain ⟨c, hc, rfl⟩ := val_of_key h ha hu
  obtain ⟨d, hd, rfl⟩ := val_of_key h ha hv
  exact eqIn_ok 12 kt k h 10000 (by omega) x y c d hc hd

theorem run_findAsking {kt : TypeId} {k vt : Ty} {ka va : Bool} (h : eqTyOf P 12 kt = some k) (ha : isAggT P kt = some ka) {x : k.den} {u : Value} (hu : valRel w F ka k x u) :
    ∀ (l : List (Nat × (k.den × vt.den))) (es : List MapEntry) (i : Nat), all2 (entRel w F ka va k vt) l es → (Instr.findAsking kt u es i).run P w = .ok (mfi k x l es i) w
  | [], [], i, _ => by simp [Instr.findAsking, mfi]
  | e :: l, m :: es, i, hl => by
    have he := run_equal_key (w := w) h ha hu hl.1.2.1
    rw [Instr.findAsking]
    simp only [Sem.run_bind, he, Result.andThen_ok, mfi]
    cases hq : eqTy k x e.2.1 with
    | true => simp
    | false => simpa using run_findAsking h ha hu l es (i + 1) hl.2
  | [], _ :: _, _, hl => hl.elim
  | _ :: _, [], _, hl => hl.elim

theorem run_find {kt : TypeId} {k vt : Ty} {ka va : Bool} (h : eqTyOf P 12 kt = some k) (ha : isAggT P kt = some ka) (hp : k.plain = true) {x : k.den} {u : Value} (hu : valRel w F ka k x u)
    {l : List (Nat × (k.den × vt.den))} {es : List MapEntry} (hl : all2 (entRel w F ka va k vt) l es) : (Instr.findKey kt u es).run P w = .ok (mfi k x l es 0) w := by
  have hask := run_findAsking h ha hu l es 0 hl
  have base : ∀ d, P.underlying kt = some d → (∀ i r, Instr.findNow d u es i = some r → r = mfi k x l es i) → (Instr.findKey kt u es).run P w = .ok (mfi k x l es 0) w := by
    intro d hd hn
    simp only [Instr.findKey, Sem.run_bind, run_underlying hd, Result.andThen_ok]
    cases hf : Instr.findNow d u es 0 with
    | none => simpa using hask
    | some r => simp [hn 0 r hf]
  obtain ⟨d, hd⟩ := Option.isSome_iff_exists.1 (underlying_some P 12 kt k h).1
  refine base d hd ?_
  clear base hask
  have one : ∀ e : MapEntry, ∀ y : k.den, valRel w F ka k y e.key → ∀ b, Instr.sameNow d u e.key = some b → b = eqTy k x y := by
    intro e y hy b hb
    unfold Instr.sameNow at hb
    split at hb
    · rename_i kk j a j' b' hv
      have hek : eqTyOf P 12 kt = some (.int kk) := by rw [show (12 : Nat) = 11 + 1 from rfl, eqTyOf]; simp [hd]
      rw [h] at hek
      simp only [Option.some.injEq] at hek
      subst hek
      have ha' : ka = false := by simpa [isAggT, hd] using ha.symm
      subst ha'
      simp only [valRel, Ty.cells, List.cons.injEq, and_true] at hu hy
      rw [hv] at hy
      simp only [Value.int.injEq] at hu hy
      obtain ⟨rfl, rfl⟩ := hu
      obtain ⟨rfl, rfl⟩ := hy
      simp at hb
      exact hb.symm
    · rename_i a b' hv
      have hek : eqTyOf P 12 kt = some .str := by rw [show (12 : Nat) = 11 + 1 from rfl, eqTyOf]; simp [hd]
      rw [h] at hek
      simp only [Option.some.injEq] at hek
      subst hek
      simp [Ty.plain] at hp
    · rename_i a b' hv
      have hek : eqTyOf P 12 kt = some .bool := by rw [show (12 : Nat) = 11 + 1 from rfl, eqTyOf]; simp [hd]
      rw [h] at hek
      simp only [Option.some.injEq] at hek
      subst hek
      have ha' : ka = false := by simpa [isAggT, hd] using ha.symm
      subst ha'
      simp only [valRel, Ty.cells, List.cons.injEq, and_true] at hu hy
      rw [hv] at hy
      simp only [Value.bool.injEq] at hu hy
      subst hu; subst hy
      simp at hb
      exact hb.symm
    · cases hb
  clear hd
  induction l generalizing es with
  | nil =>
    cases es with
    | nil => intro i r hr; simp [Instr.findNow] at hr; subst hr; simp [mfi]
    | cons _ _ => exact hl.elim
  | cons e l ih =>
    cases es with
    | nil => exact hl.elim
    | cons m es =>
      intro i r hr
      simp only [Instr.findNow] at hr
      simp only [mfi]
      split at hr
      · rename_i hs
        have := one m e.2.1 hl.1.2.1 true hs
        simp only [Option.some.injEq] at hr
        rw [← this, ← hr]; rfl
      · rename_i hs
        have := one m e.2.1 hl.1.2.1 false hs
        rw [← this]
        exact ih hl.2 (i + 1) r hr
      · cases hr

/-- What 'mfi' finds is what 'mfind' finds. -/
theorem mfi_spec {k vt : Ty} {ka va : Bool} {x : k.den} : ∀ (l : List (Nat × (k.den × vt.den))) (es : List MapEntry) (i : Nat), all2 (entRel w F ka va k vt) l es →
    (mfi k x l es i = none ∧ mfind k x l = none ∧ (∀ c y, mput k c x y l = l ++ [(c, x, y)]) ∧ mdel k x l = l) ∨
    ∃ j e m, mfi k x l es i = some (i + j, m.val) ∧ mfind k x l = some e ∧ es[j]? = some m ∧ entRel w F ka va k vt e m ∧ eqTy k x e.2.1 = true ∧
      (∀ c y, ∀ m' : MapEntry, entRel w F ka va k vt (e.1, x, y) m' → all2 (entRel w F ka va k vt) (mput k c x y l) (es.set j m')) ∧ all2 (entRel w F ka va k vt) (mdel k x l) (es.eraseIdx j)
  | [], [], i, _ => .inl ⟨rfl, rfl, fun _ _ => rfl, rfl⟩
  | e :: l, m :: es, i, hl => by
    simp only [mfi, mfind, mput, mdel]
    cases hq : eqTy k x e.2.1 with
    | true =>
      exact .inr ⟨0, e, m, rfl, rfl, rfl, hl.1, hq, fun c y m' h' => ⟨h', hl.2⟩, hl.2⟩
    | false =>
      simp only [cond_false]
      rcases mfi_spec l es (i + 1) hl.2 with ⟨h1, h2, h3, h4⟩ | ⟨j, e', m', h1, h2, h3, h4, h5, h6, h7⟩
      · exact .inl ⟨h1, h2, fun c y => by rw [h3]; rfl, by rw [h4]⟩
      · exact .inr ⟨j + 1, e', m', by rw [h1, Nat.add_assoc, Nat.add_comm 1 j], h2, by simpa using h3, h4, h5, fun c y m2 h' => ⟨hl.1, h6 c y m2 h'⟩, ⟨hl.1, h7⟩⟩
  | [], _ :: _, _, hl => hl.elim
  | _ :: _, [], _, hl => hl.elim

end key
end Go.Sh
