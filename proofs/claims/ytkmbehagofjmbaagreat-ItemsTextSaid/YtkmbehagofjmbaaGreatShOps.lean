/-
  The shadow evaluator's operations are right: each does what the model's operation does. No project text.
-/
import Derived.Test.YtkmbehagofjmbaaGreatShRel
import Derived.ChangeKeysEq
import Derived.Laws.StructEq
import Derived.Laws.BytesString
namespace Go.Sh

section
variable {w : World} {F : Nat → Prop} {hd : Nat → Value}

theorem castL_eq {t u : Ty} {l : List t.den} {m : List u.den} (h : castL t u l = some m) : ∃ e : t = u, e ▸ l = m := by
  unfold castL at h
  split at h
  · rename_i e; exact ⟨e, by simpa using h⟩
  · cases h

theorem castL_rel {t u : Ty} {l : List t.den} {m : List u.den} (h : castL t u l = some m) {v : Value} (hs : sliceRel (t.cells w F) w F l v) : sliceRel (u.cells w F) w F m v := by
  obtain ⟨e, he⟩ := castL_eq h
  subst e; simp only at he; subst he; exact hs

/-- What is decoded is what lies there. -/
theorem dec_ok : ∀ (t : Ty) (cs : List SV) (x : t.den) (r : List SV) (vs : List Value), dec t cs = some (x, r) → all2 (SVRel w F hd) cs vs →
    ∃ c d, vs = c ++ d ∧ t.cells w F x c ∧ all2 (SVRel w F hd) r d := by
  intro t
  induction t with
  | int k =>
    intro cs x r vs h hv
    cases cs with
    | nil => simp [dec] at h
    | cons c cs => cases c <;> (try (simp [dec] at h; done)); rename_i v; cases v <;> (try (simp [dec] at h; done)); rename_i k' n; simp only [dec] at h; split at h
                   · rename_i e; simp only [Option.some.injEq, Prod.mk.injEq] at h; obtain ⟨rfl, rfl⟩ := h; subst e
                     cases vs with
                     | nil => exact hv.elim
                     | cons v vs => obtain ⟨h1, h2⟩ := hv; simp only [SVRel] at h1; subst h1; exact ⟨[_], vs, rfl, rfl, h2⟩
                   · cases h
  | bool =>
    intro cs x r vs h hv
    cases cs with
    | nil => simp [dec] at h
    | cons c cs => cases c <;> (try (simp [dec] at h; done)); rename_i v; cases v <;> (try (simp [dec] at h; done)); simp only [dec, Option.some.injEq, Prod.mk.injEq] at h; obtain ⟨rfl, rfl⟩ := h
                   cases vs with
                   | nil => exact hv.elim
                   | cons v vs => obtain ⟨h1, h2⟩ := hv; simp only [SVRel] at h1; subst h1; exact ⟨[_], vs, rfl, rfl, h2⟩
  | str =>
    intro cs x r vs h hv
    cases cs with
    | nil => simp [dec] at h
    | cons c cs => cases c <;> (try (simp [dec] at h; done)); rename_i v; cases v <;> (try (simp [dec] at h; done)); simp only [dec, Option.some.injEq, Prod.mk.injEq] at h; obtain ⟨rfl, rfl⟩ := h
                   cases vs with
                   | nil => exact hv.elim
                   | cons v vs => obtain ⟨h1, h2⟩ := hv; simp only [SVRel] at h1; subst h1; exact ⟨[_], vs, rfl, rfl, h2⟩
  | un =>
    intro cs x r vs h hv
    have : dec .un cs = some ((), cs) := by cases cs <;> rfl
    rw [this] at h; simp only [Option.some.injEq, Prod.mk.injEq, true_and] at h; subst h; exact ⟨[], vs, rfl, rfl, hv⟩
  | sl t ih =>
    intro cs x r vs h hv
    cases cs with
    | nil => simp [dec] at h
    | cons c cs =>
      cases vs with
      | nil => exact hv.elim
      | cons v vs =>
        obtain ⟨h1, h2⟩ := hv
        cases c <;> (try (simp [dec] at h; done))
        · rename_i z
          cases z <;> (try (simp [dec] at h; done))
          rename_i p n c
          cases p with
          | some p => simp [dec] at h
          | none =>
            cases n with
            | succ n => simp [dec] at h
            | zero =>
              cases c with
              | succ c => simp [dec] at h
              | zero =>
                simp only [dec, Option.some.injEq, Prod.mk.injEq] at h
                obtain ⟨rfl, rfl⟩ := h
                simp only [SVRel] at h1; subst h1
                exact ⟨[_], vs, rfl, ⟨_, rfl, .inl ⟨⟨_, rfl⟩, rfl⟩⟩, h2⟩
        · rename_i u l
          simp only [dec, Option.map_eq_some_iff] at h
          obtain ⟨m, hm, he⟩ := h
          simp only [Prod.mk.injEq] at he
          obtain ⟨rfl, rfl⟩ := he
          exact ⟨[v], vs, rfl, ⟨v, rfl, castL_rel hm h1⟩, h2⟩
  | pr a b iha ihb =>
    intro cs x r vs h hv
    simp only [dec, Option.bind_eq_some_iff, Option.map_eq_some_iff] at h
    obtain ⟨⟨x1, r1⟩, h1, ⟨x2, r2⟩, h2, he⟩ := h
    simp only [Prod.mk.injEq] at he
    obtain ⟨rfl, rfl⟩ := he
    obtain ⟨c1, d1, e1, hc1, hd1⟩ := iha _ _ _ _ h1 hv
    obtain ⟨c2, d2, e2, hc2, hd2⟩ := ihb _ _ _ _ h2 hd1
    exact ⟨c1 ++ c2, d2, by rw [e1, e2, List.append_assoc], ⟨c1, c2, rfl, hc1, hc2⟩, hd2⟩

theorem decAll_ok {t : Ty} {cs : List SV} {x : t.den} {vs : List Value} (h : decAll t cs = some x) (hv : all2 (SVRel w F hd) cs vs) : t.cells w F x vs := by
  unfold decAll at h
  split at h
  · rename_i y hy
    simp only [Option.some.injEq] at h
    subst h
    obtain ⟨c, d, e, hc, hd'⟩ := dec_ok t cs _ _ vs hy hv
    cases d with
    | nil => rw [e, List.append_nil]; exact hc
    | cons _ _ => exact hd'.elim
  · cases h

theorem enc_ok : ∀ (t : Ty) (x : t.den) (cs : List Value), t.cells w F x cs → all2 (SVRel w F hd) (enc t x) cs
  | .int _, _, _, h => by cases h; exact ⟨rfl, trivial⟩
  | .bool, _, _, h => by cases h; exact ⟨rfl, trivial⟩
  | .str, _, _, h => by cases h; exact ⟨rfl, trivial⟩
  | .un, _, _, h => by cases h; trivial
  | .sl _, _, _, ⟨v, h, hs⟩ => by cases h; exact ⟨hs, trivial⟩
  | .pr a b, _, _, ⟨c, d, h, hc, hd⟩ => by rw [h]; exact all2.app (enc_ok a _ _ hc) (enc_ok b _ _ hd)

end

section eq
variable {P : Program} {w : World} {F : Nat → Prop}

/-- A value of a type out of its cells. -/
def pval (P : Program) (t : TypeId) (cs : List Value) : Value :=
  match P.underlying t with
  | some (.struct _) | some (.array _ _) => .agg cs.toArray
  | _ => cs.headD undef

theorem run_part (t : TypeId) (xs : Array Value) (off n : Nat) (hd : (P.underlying t).isSome) (hn : P.cellsOf t = n) (hi : (P.info? t).isSome) (c : List Value) (hc : c.length = n)
    (h1 : (match P.underlying t with | some (.struct _) | some (.array _ _) => true | _ => false) = true ∨ n = 1)
    (h : ∃ r, xs.toList.drop off = c ++ r) : (part t xs off).run P w = .ok (pval P t c) w := by
  obtain ⟨r, hr⟩ := h
  obtain ⟨i, hi⟩ := Option.isSome_iff_exists.1 hi
  obtain ⟨d, hd⟩ := Option.isSome_iff_exists.1 hd
  have hsz : i.size = n := by simpa [Program.cellsOf, hi] using hn
  have hget : ∀ v c', c = v :: c' → xs[off]? = some v := by
    intro v c' e
    have := congrArg (·[0]?) hr
    simpa [e, List.getElem?_drop] using this
  have hext : (xs.extract off (off + n)).toList = c := by
    rw [Array.toList_extract, List.extract_eq_take_drop, hr, Nat.add_sub_cancel_left, ← hc, List.take_left']
    rfl
  have hagg : (xs.extract off (off + n)) = c.toArray := by rw [← hext]
  unfold part pval isAgg
  simp only [Sem.run_bind, run_underlying hd, Result.andThen_ok]
  cases d
  case struct fs => simp [sizeOf, typeInfo, hi, hsz, hagg, hd]
  case array m e => simp [sizeOf, typeInfo, hi, hsz, hagg, hd]
  all_goals
    (simp only [hd] at h1
     have h1 : n = 1 := by simpa using h1
     subst h1
     match c, hc with
     | [v], _ => simp [hd, hget v [] rfl])

theorem eq_of_int {t : TypeId} {k : IntKind} (hu : P.underlying t = some (.int k)) (m : Nat) (a b : (Ty.int k).den) (ca cb : List Value) (ha : (Ty.int k).cells w F a ca) (hb : (Ty.int k).cells w F b cb) :
    (Op.equalIn (m + 1) t (pval P t ca) (pval P t cb)).run P w = .ok (eqTy (.int k) a b) w := by
  simp only [Ty.cells] at ha hb
  subst ha; subst hb
  simp only [pval, hu, List.headD_cons]
  exact run_equalIn_int w m t k k a b hu

theorem nc_pos_of_scalar (P : Program) : ∀ (d : Nat) (t : TypeId) (ty : Ty), eqTyOf P d t = some ty →
    (match P.underlying t with | some (.struct _) | some (.array _ _) => true | _ => false) = true ∨ ty.nc = 1 := by
  intro d t ty h
  cases d with
  | zero => simp [eqTyOf] at h
  | succ d =>
    unfold eqTyOf at h
    split at h
    · rename_i hu; simp only [Option.some.injEq] at h; subst h; right; rfl
    · rename_i hu; simp only [Option.some.injEq] at h; subst h; right; rfl
    · rename_i hu; simp only [Option.some.injEq] at h; subst h; right; rfl
    · rename_i hu; left; simp [hu]
    · rename_i hu; left; simp [hu]
    · cases h

theorem underlying_some (P : Program) : ∀ (d : Nat) (t : TypeId) (ty : Ty), eqTyOf P d t = some ty → (P.underlying t).isSome ∧ (P.info? t).isSome := by
  intro d t ty h
  have h1 : (P.underlying t).isSome := by
    cases d with
    | zero => simp [eqTyOf] at h
    | succ d =>
      unfold eqTyOf at h
      split at h <;> (try (rename_i hu; simp [hu]; done))
      cases h
  refine ⟨h1, ?_⟩
  unfold Program.underlying at h1
  cases hi : P.info? t with
  | none => simp [hi] at h1
  | some i => rfl

theorem eqIn_ok : ∀ (d : Nat) (t : TypeId) (ty : Ty), eqTyOf P d t = some ty → ∀ (m : Nat), d ≤ m → ∀ (a b : ty.den) (ca cb : List Value), ty.cells w F a ca → ty.cells w F b cb →
    (Op.equalIn m t (pval P t ca) (pval P t cb)).run P w = .ok (eqTy ty a b) w := by
  intro d
  induction d with
  | zero => intro t ty h; simp [eqTyOf] at h
  | succ d ih =>
    intro t ty h m hm a b ca cb ha hb
    obtain ⟨m, rfl⟩ : ∃ k, m = k + 1 := ⟨m - 1, by omega⟩
    have hm' : d ≤ m := by omega
    -- one part
    have step : ∀ (e : TypeId) (x : Ty), eqTyOf P d e = some x → P.cellsOf e = x.nc → ∀ (xs ys : Array Value) (off : Nat) (a b : x.den) (ca cb ra rb : List Value), x.cells w F a ca → x.cells w F b cb →
        xs.toList.drop off = ca ++ ra → ys.toList.drop off = cb ++ rb →
        (part e xs off).run P w = .ok (pval P e ca) w ∧ (part e ys off).run P w = .ok (pval P e cb) w ∧ (Op.equalIn m e (pval P e ca) (pval P e cb)).run P w = .ok (eqTy x a b) w := by
      intro e x he hn xs ys off a b ca cb ra rb ha hb hxs hys
      obtain ⟨hu, hi⟩ := underlying_some P d e x he
      have h1 := nc_pos_of_scalar P d e x he
      exact ⟨run_part e xs off x.nc hu hn hi ca (x.cells_len _ _ ha) h1 ⟨ra, hxs⟩, run_part e ys off x.nc hu hn hi cb (x.cells_len _ _ hb) h1 ⟨rb, hys⟩, ih e x he m hm' a b ca cb ha hb⟩
    unfold eqTyOf at h
    split at h
    · rename_i k hu
      simp only [Option.some.injEq] at h; subst h
      exact eq_of_int hu m a b ca cb ha hb
    · rename_i hu
      simp only [Option.some.injEq] at h; subst h
      simp only [Ty.cells] at ha hb; subst ha; subst hb
      simp only [pval, hu, List.headD_cons]
      exact run_equalIn_bool w m t a b hu
    · rename_i hu
      simp only [Option.some.injEq] at h; subst h
      simp only [Ty.cells] at ha hb; subst ha; subst hb
      simp only [pval, hu, List.headD_cons]
      exact run_equalIn_string w m t a b hu
    · rename_i n e hu
      split at h
      · rename_i x hx
        cases hc : (Nat.beq (P.cellsOf e) x.nc && (P.info? e).isSome) with
        | false => simp [hc] at h
        | true =>
          simp only [hc, cond_true, Option.some.injEq] at h
          simp only [Bool.and_eq_true] at hc
          obtain ⟨hc1, hc2⟩ := hc
          have hn := Nat.eq_of_beq_eq_true hc1
          obtain ⟨i, hi⟩ := Option.isSome_iff_exists.1 hc2
          subst h
          simp only [pval, hu]
          rw [run_equalIn_array w m _ _ hu hi, List.range_eq_range']
          have key : ∀ (n k : Nat) (a b : (tyArr x n).den) (ca cb : List Value), (tyArr x n).cells w F a ca → (tyArr x n).cells w F b cb → ∀ (xs ys : Array Value),
              xs.toList.drop (k * P.cellsOf e) = ca → ys.toList.drop (k * P.cellsOf e) = cb →
              (Op.eqItems m e (P.cellsOf e) xs ys (List.range' k n)).run P w = .ok (eqTy (tyArr x n) a b) w := by
            intro n
            induction n with
            | zero => intro k a b ca cb ha hb xs ys hxs hys; simp [Op.eqItems, tyArr, eqTy]
            | succ n ihn =>
              intro k a b ca cb ha hb xs ys hxs hys
              rw [List.range'_succ]
              cases n with
              | zero =>
                have e1 : eqTy (tyArr x (0 + 1)) a b = eqTy x a b := rfl
                rw [e1]
                obtain ⟨p1, p2, p3⟩ := step e x hx hn xs ys (k * P.cellsOf e) a b ca cb [] [] ha hb (by simpa using hxs) (by simpa using hys)
                simp only [Op.eqItems, Sem.run_bind, p1, p2, p3, Result.andThen_ok, List.range'_zero, Sem.run_ite, Sem.run_pure]
                cases eqTy x a b <;> simp
              | succ n =>
                obtain ⟨ca1, ca2, rfl, ha1, ha2⟩ := ha
                obtain ⟨cb1, cb2, rfl, hb1, hb2⟩ := hb
                obtain ⟨p1, p2, p3⟩ := step e x hx hn xs ys (k * P.cellsOf e) a.1 b.1 ca1 cb1 ca2 cb2 ha1 hb1 hxs hys
                have hd1 : xs.toList.drop ((k + 1) * P.cellsOf e) = ca2 := by
                  rw [Nat.add_mul, Nat.one_mul, ← List.drop_drop, hxs, hn, ← x.cells_len _ _ ha1, List.drop_left]
                have hd2 : ys.toList.drop ((k + 1) * P.cellsOf e) = cb2 := by
                  rw [Nat.add_mul, Nat.one_mul, ← List.drop_drop, hys, hn, ← x.cells_len _ _ hb1, List.drop_left]
                have hr := ihn (k + 1) a.2 b.2 ca2 cb2 ha2 hb2 xs ys hd1 hd2
                have e1 : eqTy (tyArr x (n + 1 + 1)) a b = (eqTy x a.1 b.1 && eqTy (tyArr x (n + 1)) a.2 b.2) := rfl
                rw [e1, Op.eqItems]
                simp only [Sem.run_bind, p1, p2, p3, Result.andThen_ok, Sem.run_ite, Sem.run_pure, hr]
                cases eqTy x a.1 b.1 <;> simp
          exact key n 0 a b ca cb ha hb _ _ (by simp) (by simp)
      · cases h
    · rename_i fs hu
      cases hst : P.stoodInHeld t with
      | true => simp [hst] at h
      | false =>
        simp only [hst, cond_false] at h
        simp only [pval, hu]
        have hf : P.fieldsOf t = fs := by simp [Program.fieldsOf, hu]
        rw [run_equalIn_struct w m t _ _ (by rw [hf]; exact hu) hst, hf]
        have key : ∀ (l : List Field) (off : Nat) (ty : Ty), eqTyFields P (eqTyOf P d) l off = some ty → ∀ (a b : ty.den) (ca cb : List Value), ty.cells w F a ca → ty.cells w F b cb → ∀ (xs ys : Array Value),
            xs.toList.drop off = ca → ys.toList.drop off = cb → (Op.eqFields m xs ys l).run P w = .ok (eqTy ty a b) w := by
          intro l
          induction l with
          | nil => intro off ty h a b ca cb ha hb xs ys hxs hys; simp only [eqTyFields, Option.some.injEq] at h; subst h; simp [Op.eqFields, eqTy]
          | cons f l ihl =>
            intro off ty h a b ca cb ha hb xs ys hxs hys
            cases l with
            | nil =>
              simp only [eqTyFields] at h
              split at h
              · rename_i x hx
                cases hc : (Nat.beq f.offset off && Nat.beq (P.cellsOf f.type) x.nc && f.name != "_") with
                | false => simp [hc] at h
                | true =>
                  simp only [hc, cond_true, Option.some.injEq] at h
                  subst h
                  simp only [Bool.and_eq_true] at hc
                  obtain ⟨⟨hc1, hc2⟩, hc3⟩ := hc
                  have ho := Nat.eq_of_beq_eq_true hc1
                  have hn := Nat.eq_of_beq_eq_true hc2
                  have hne : f.name ≠ "_" := by simpa using hc3
                  obtain ⟨p1, p2, p3⟩ := step f.type x hx hn xs ys f.offset a b ca cb [] [] ha hb (by rw [ho]; simpa using hxs) (by rw [ho]; simpa using hys)
                  simp only [Op.eqFields, hne, ne_eq, not_false_eq_true, if_true, Sem.run_bind, p1, p2, p3, Result.andThen_ok, Sem.run_ite, Sem.run_pure]
                  cases eqTy x a b <;> simp
              · cases h
            | cons g l =>
              simp only [eqTyFields] at h
              split at h
              · rename_i x hx
                cases hc : (Nat.beq f.offset off && Nat.beq (P.cellsOf f.type) x.nc && f.name != "_") with
                | false => simp [hc] at h
                | true =>
                  simp only [hc, cond_true] at h
                  split at h
                  · rename_i y hy
                    simp only [Option.some.injEq] at h
                    subst h
                    simp only [Bool.and_eq_true] at hc
                    obtain ⟨⟨hc1, hc2⟩, hc3⟩ := hc
                    have ho := Nat.eq_of_beq_eq_true hc1
                    have hn := Nat.eq_of_beq_eq_true hc2
                    have hne : f.name ≠ "_" := by simpa using hc3
                    obtain ⟨ca1, ca2, rfl, ha1, ha2⟩ := ha
                    obtain ⟨cb1, cb2, rfl, hb1, hb2⟩ := hb
                    obtain ⟨p1, p2, p3⟩ := step f.type x hx hn xs ys f.offset a.1 b.1 ca1 cb1 ca2 cb2 ha1 hb1 (by rw [ho]; exact hxs) (by rw [ho]; exact hys)
                    have hd1 : xs.toList.drop (off + x.nc) = ca2 := by rw [← List.drop_drop, hxs, ← x.cells_len _ _ ha1, List.drop_left]
                    have hd2 : ys.toList.drop (off + x.nc) = cb2 := by rw [← List.drop_drop, hys, ← x.cells_len _ _ hb1, List.drop_left]
                    have hr := ihl (off + x.nc) y hy a.2 b.2 ca2 cb2 ha2 hb2 xs ys hd1 hd2
                    rw [Op.eqFields]
                    simp only [hne, ne_eq, not_false_eq_true, if_true, Sem.run_bind, p1, p2, p3, Result.andThen_ok, Sem.run_ite, Sem.run_pure, hr, eqTy]
                    cases eqTy x a.1 b.1 <;> simp
                  · cases h
              · cases h
        exact key _ 0 ty h a b ca cb ha hb _ _ (by simp) (by simp)
    · cases h

end eq
end Go.Sh
