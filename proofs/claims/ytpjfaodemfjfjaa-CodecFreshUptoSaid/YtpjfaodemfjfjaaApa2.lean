/-
  The law of rows apart in plain Lean.
-/
import Derived.Test.YtpjfaodemfjfjaaApa
set_option maxRecDepth 100000
set_option linter.unusedVariables false
namespace Go.Proofs.Ytpjfaodemfjfjaa
open Go Go.Sh Go.Proofs

theorem byteOf_inj {a b : Int} (ha : 0 ≤ a ∧ a < 256) (hb : 0 ≤ b ∧ b < 256) (h : Go.Sh.byteOf a = Go.Sh.byteOf b) : a = b := by
  have := congrArg UInt8.toNat h
  simp only [Go.Sh.byteOf, UInt8.toNat_ofNat'] at this
  omega

theorem map_byteOf_inj : ∀ {a b : List Int}, Bytes a → Bytes b → a.map Go.Sh.byteOf = b.map Go.Sh.byteOf → a = b
  | [], [], _, _, _ => rfl
  | [], _ :: _, _, _, h => by cases h
  | _ :: _, [], _, _, h => by cases h
  | x :: a, y :: b, ha, hb, h => by
    simp only [List.map_cons, List.cons.injEq] at h
    rw [byteOf_inj (ha x (.head _)) (hb y (.head _)) h.1, map_byteOf_inj (fun n hn => ha n (.tail _ hn)) (fun n hn => hb n (.tail _ hn)) h.2]

theorem strEq_bytes {a b : List Int} (ha : Bytes a) (hb : Bytes b) : strEq (strOf a) (strOf b) = decide (a = b) := by
  unfold strEq
  rw [ByteArray.toList_eq, ByteArray.toList_eq]
  rw [Bool.eq_iff_iff, beq_iff_eq, decide_eq_true_eq]
  constructor
  · intro h
    simp only [strOf] at h
    exact map_byteOf_inj ha hb h
  · intro h; rw [h]

theorem eqTy_iff (x y : Nam) : eqTy NT x y = true ↔ x = y := by
  obtain ⟨x0, x1, x2, x3, x4, x5, x6, x7⟩ := x
  obtain ⟨y0, y1, y2, y3, y4, y5, y6, y7⟩ := y
  simp only [eqTy, Bool.and_eq_true, beq_iff_eq]
  constructor
  · rintro ⟨rfl, rfl, rfl, rfl, rfl, rfl, rfl, rfl⟩; rfl
  · intro h; cases h; simp

instance namDec : DecidableEq Nam := fun x y => decidable_of_iff _ (eqTy_iff x y)

theorem eqTy_nam (x y : Nam) : eqTy NT x y = decide (x = y) := by
  rw [Bool.eq_iff_iff, eqTy_iff, decide_eq_true_eq]

theorem run14' (K : Nat) (a b : List Nam) (hab : a.length = b.length) (hl : a.length ≤ 65536) : ∀ (r i k : Nat), a.length - i = r → i ≤ a.length → r < k →
    l14_4 K k ((a, b, (i : Int), ()), ()) = some (if a.drop i = b.drop i then .inl ((), ()) else .inr ((false, ()), ())) := by
  intro r
  induction r with
  | zero =>
    intro i k h1 h2 h3
    obtain ⟨k, rfl⟩ : ∃ k', k = k' + 1 := ⟨k - 1, by omega⟩
    rw [eq14_4, bf (by omega), List.drop_eq_nil_of_le (by omega), List.drop_eq_nil_of_le (by omega), if_pos rfl]
  | succ r ih =>
    intro i k h1 h2 h3
    obtain ⟨k, rfl⟩ : ∃ k', k = k' + 1 := ⟨k - 1, by omega⟩
    rw [eq14_4, bt (by omega), ix_lt a i (by omega), ix_lt b i (by omega), wrap64 (by omega) (by omega), show ((i : Int) + 1) = ((i + 1 : Nat) : Int) by omega, ih (i + 1) k (by omega) (by omega) (by omega)]
    simp only [Option.bind]
    rw [eqTy_nam]
    have hiff : a.drop i = b.drop i ↔ a[i] = b[i] ∧ a.drop (i + 1) = b.drop (i + 1) := by
      rw [List.drop_eq_getElem_cons (show i < a.length by omega), List.drop_eq_getElem_cons (show i < b.length by omega), List.cons.injEq]
    by_cases h : a[i] = b[i]
    · rw [decide_eq_true h]
      simp only [hiff, h, true_and]
      rfl
    · rw [decide_eq_false h]
      simp only [hiff, h, false_and, if_false]
      rfl

theorem same14' (K : Nat) (a b : List Nam) (hl : a.length < K) (hl2 : a.length ≤ 65536) (hl3 : b.length ≤ 65536) : F14 K (a, b, ()) = some (decide (a = b), ()) := by
  rw [eq14]
  by_cases hab : a.length = b.length
  · have hb : ((a.length : Int) != b.length) = false := by simp [hab]
    have := run14' K a b hab hl2 a.length 0 K (by omega) (by omega) hl
    simp only [List.drop_zero] at this
    rw [hb, show (0 : Int) = ((0 : Nat) : Int) from rfl, this]
    by_cases h : a = b
    · simp [h]
    · simp [h]
  · have hb : ((a.length : Int) != b.length) = true := by simp; omega
    have : a ≠ b := fun e => hab (by rw [e])
    rw [hb]
    simp [this]

theorem pow_dvd' (n : Nat) : 256 ^ n ∣ 256 ^ (n + 1) := ⟨256, Nat.pow_succ ..⟩

theorem bytesP_mod : ∀ (n x y : Nat), n ≤ 8 → x % 256 ^ n = y % 256 ^ n → bytesP x n = bytesP y n
  | 0, _, _, _, _ => rfl
  | n + 1, x, y, hn, h => by
    have h1 : x % 256 ^ n = y % 256 ^ n := by rw [← Nat.mod_mod_of_dvd x (pow_dvd' n), h, Nat.mod_mod_of_dvd y (pow_dvd' n)]
    have h2 : x / 256 ^ n % 256 = y / 256 ^ n % 256 := by
      rw [Nat.pow_succ, Nat.mod_mul, Nat.mod_mul, h1] at h
      have hp : 0 < 256 ^ n := Nat.pow_pos (by omega)
      exact Nat.eq_of_mul_eq_mul_left hp (by omega)
    have hlow : ∀ v : Nat, low (v : Int) (8 * (n : Int)) = ((v / 256 ^ n % 256 : Nat) : Int) := by
      intro v
      have := low_div (v : Int) (8 * n) (by omega)
      rw [show ((8 * n : Nat) : Int) = 8 * (n : Int) by simp] at this
      rw [this, Int.pow_mul, show (2 : Int) ^ 8 = 256 by decide]
      simp
    simp only [bytesP, hlow, h2, bytesP_mod n x y (by omega) h1]

theorem bytesP_iff (n x y : Nat) (hn : n ≤ 8) : bytesP x n = bytesP y n ↔ x % 256 ^ n = y % 256 ^ n := by
  refine ⟨fun h => ?_, bytesP_mod n x y hn⟩
  have h1 := fold_bytes x n 0 0 (by decide) (by omega)
  have h2 := fold_bytes y n 0 0 (by decide) (by omega)
  rw [h] at h1
  rw [h1] at h2
  have h3 := Int.ofNat.inj h2
  rw [Nat.zero_mul, Nat.zero_add, Nat.zero_add] at h3
  exact h3

theorem nb_inj {x y : Nam} (h : nb x = nb y) : x = y := by
  obtain ⟨x0, x1, x2, x3, x4, x5, x6, x7⟩ := x
  obtain ⟨y0, y1, y2, y3, y4, y5, y6, y7⟩ := y
  simp only [nb, List.cons.injEq, and_true] at h
  obtain ⟨rfl, rfl, rfl, rfl, rfl, rfl, rfl, rfl⟩ := h
  rfl

theorem allB_inj : ∀ {a b : List Nam}, allB a = allB b → a = b
  | [], [], _ => rfl
  | [], y :: b, h => by have := congrArg List.length h; simp [allB_length] at this
  | x :: a, [], h => by have := congrArg List.length h; simp [allB_length] at this
  | x :: a, y :: b, h => by
    rw [allB_cons, allB_cons] at h
    have := List.append_inj h rfl
    rw [nb_inj this.1, allB_inj this.2]

/-- Whether two values of one kind and width are equal, as far as their bytes say. -/
def eqV (v u : Val) : Prop :=
  if kindV v = 0 then v.2.2.1.toNat % 256 ^ (widthV v).toNat = u.2.2.1.toNat % 256 ^ (widthV v).toNat
  else if kindV v = 1 then v.2.2.2.1 = u.2.2.2.1 else v.2.2.2.2 = u.2.2.2.2

theorem encV_iff {v u : Val} (hv : Okay v) (hu : Okay u) (hk : kindV u = kindV v) (hw : widthV u = widthV v) {e f : List Int} (he : encV v = some e) (hf : encV u = some f) : e = f ↔ eqV v u := by
  have hwr := widthV_range v
  unfold encV at he hf
  unfold eqV
  rw [hk, hw] at hf
  by_cases h0 : kindV v = 0
  · rw [if_pos h0] at he hf ⊢
    simp only [Option.some.injEq] at he hf
    obtain ⟨x, hx⟩ : ∃ x : Nat, v.2.2.1 = x := ⟨v.2.2.1.toNat, by have := hv.num; omega⟩
    obtain ⟨y, hy⟩ : ∃ y : Nat, u.2.2.1 = y := ⟨u.2.2.1.toNat, by have := hu.num; omega⟩
    rw [← he, ← hf, hx, hy, Int.toNat_natCast, Int.toNat_natCast]
    exact bytesP_iff _ x y (by omega)
  · rw [if_neg h0] at he hf ⊢
    by_cases h1 : kindV v = 1
    · rw [if_pos h1] at he hf ⊢
      split at he
      · cases he
      · split at hf
        · cases hf
        · simp only [Option.some.injEq] at he hf
          rw [← he, ← hf]
          refine ⟨fun h => ?_, fun h => by rw [h]⟩
          exact (List.append_inj h (by simp only [bytesP_length])).2
    · rw [if_neg h1] at he hf ⊢
      split at he
      · cases he
      · split at hf
        · cases hf
        · simp only [Option.some.injEq] at he hf
          rw [← he, ← hf]
          refine ⟨fun h => ?_, fun h => by rw [h]⟩
          exact allB_inj (List.append_inj h (by simp only [bytesP_length])).2

theorem catV_append : ∀ (a b : List Val), catV (a ++ b) = catV a ++ catV b
  | [], _ => rfl
  | v :: a, b => by simp only [List.cons_append, catV, catV_append a b, List.append_assoc]

theorem catV_set {l : List Val} {q : Nat} {u : Val} (hq : q < l.length) : catV (l.set q u) = catV (l.take q) ++ ((encV u).getD [] ++ catV (l.drop (q + 1))) := by
  rw [List.set_eq_take_append_cons_drop, if_pos hq, catV_append]
  rfl

theorem catV_at {l : List Val} {q : Nat} (hq : q < l.length) : catV l = catV (l.take q) ++ ((encV l[q]).getD [] ++ catV (l.drop (q + 1))) := by
  conv => lhs; rw [← List.take_append_drop q l, List.drop_eq_getElem_cons hq]
  rw [catV_append]
  rfl

theorem pos_range (l : List Val) (a : Int) (h0 : 0 < l.length) (h60 : l.length ≤ 60) : 0 ≤ pos l a ∧ pos l a < l.length := by
  have ha := wrapU_range a
  have hl : IntKind.u64.wrap (l.length : Int) = l.length := wrapU (by omega) (by omega)
  unfold pos
  rw [hl, Int.tmod_eq_emod_of_nonneg ha.1]
  have h1 := Int.emod_nonneg (IntKind.u64.wrap a) (show (l.length : Int) ≠ 0 by omega)
  have h2 := Int.emod_lt_of_pos (IntKind.u64.wrap a) (show (0 : Int) < l.length by omega)
  rw [wrap64 (by omega) (by omega)]
  omega

theorem bytesOf27 : Try.prog.bytesOf 27 = 72 := by kernel_rfl

theorem law3 (l : List Val) (a : Int) (o : Val) (hok : ∀ v ∈ l, Okay v) (ho : Okay o) (hl : (l.map szV).sum + szV o ≤ 1099511627776) : F3 300 (l, a, o, ()) = some (true, ()) := by
  rw [eq3, awake9'']
  simp only [Option.bind]
  by_cases h0 : l.length = 0
  · have hb : ((l.length : Int) == 0) = true := by simp [h0]
    rw [hb, cond_true]
  · have hb : ((l.length : Int) == 0) = false := by rw [beq_eq_false_iff_ne]; omega
    rw [hb, cond_false]
    by_cases h60 : (l.length : Int) > 60
    · rw [bt h60]
    · rw [bf h60]
      have hp := pos_range l a (by omega) (by omega)
      have hw0 : (IntKind.u64.wrap (l.length : Int) == 0) = false := by rw [wrapU (by omega) (by omega), beq_eq_false_iff_ne]; omega
      rw [hw0, cond_false, bytesOf27, decide_eq_true (show (0 + l.length) * 72 ≤ 140737488355328 by omega), decide_eq_true (show 0 + l.length ≤ 9223372036854775807 by omega)]
      simp only [Bool.and_self, cond_true, List.nil_append]
      obtain ⟨q, hq⟩ : ∃ q : Nat, pos l a = q := ⟨(pos l a).toNat, by omega⟩
      rw [hq] at hp ⊢
      have hql : q < l.length := by omega
      rw [decide_eq_true hp.1, decide_eq_true hp.2, Int.toNat_natCast, List.getElem?_eq_getElem hql]
      simp only [Bool.and_self, cond_true]
      generalize hv : l[q] = v
      have hm : v ∈ l := by rw [← hv]; exact List.getElem_mem hql
      have hov := hok v hm
      generalize hu : ((v.1, v.2.1, o.2.2) : Val) = u
      have hou : Okay u := by rw [← hu]; exact ⟨ho.num, ho.str, ho.nam⟩
      have hku : kindV u = kindV v := by rw [← hu]; rfl
      have hwu : widthV u = widthV v := by rw [← hu]; rfl
      have hszu : szV u = szV o := by rw [← hu]; rfl
      have hsum : ((l.set q u).map szV).sum ≤ (l.map szV).sum + szV o := by
        rw [List.set_eq_take_append_cons_drop, if_pos hql]
        have : (l.map szV).sum = ((l.take q).map szV).sum + ((l.drop q).map szV).sum := by
          conv => lhs; rw [← List.take_append_drop q l]
          rw [List.map_append, List.sum_append]
        rw [List.drop_eq_getElem_cons hql] at this
        simp only [List.map_append, List.sum_append, List.map_cons, List.sum_cons] at this ⊢
        omega
      have r1 := run10 300 (by omega) l (by omega) l.length 0 300 [] (by omega) (by omega) (by omega) (by simp only [List.drop_zero, List.length_nil]; omega)
      have r2 := run10 300 (by omega) (l.set q u) (by simp; omega) (l.set q u).length 0 300 [] (by omega) (by omega) (by simp; omega) (by simp only [List.drop_zero, List.length_nil]; omega)
      simp only [List.drop_zero, show ((0 : Nat) : Int) = 0 from rfl] at r1 r2
      rw [eq10, r1, eq10, r2]
      simp only [Option.bind]
      unfold apart2
      rw [awake9'']
      simp only [Option.bind]
      cases ho1 : (wr [] l).2 with
      | false => rfl
      | true =>
        cases ho2 : (wr [] (l.set q u)).2 with
        | false => rfl
        | true =>
          simp only [Bool.not_true, cond_false]
          obtain ⟨c1, e1⟩ := wr_true l [] ho1
          obtain ⟨c2, e2⟩ := wr_true (l.set q u) [] ho2
          rw [c1, c2, List.nil_append, List.nil_append]
          obtain ⟨ev, hev⟩ := e1 v hm
          obtain ⟨eu, heu⟩ := e2 u (List.mem_set hql u)
          have hoks : ∀ w ∈ l.set q u, Okay w := fun w hw => by
            rcases List.mem_or_eq_of_mem_set hw with h | h
            · exact hok w h
            · rw [h]; exact hou
          rw [strEq_bytes (catV_bytes hok) (catV_bytes hoks)]
          have hcat : (catV l = catV (l.set q u)) ↔ eqV v u := by
            rw [catV_at hql, catV_set hql, hv, hev, heu]
            simp only [Option.getD_some, List.append_cancel_left_eq, List.append_cancel_right_eq]
            exact encV_iff hov hou hku hwu hev heu
          rw [show decide (catV l = catV (l.set q u)) = @decide (eqV v u) (Classical.propDecidable _) by
            by_cases h : eqV v u
            · rw [decide_eq_true (hcat.2 h)]; simp [h]
            · rw [decide_eq_false (fun e => h (hcat.1 e))]; simp [h]]
          have hix : ix l ((q : Nat) : Int) = some v := by rw [ix_lt l q hql, hv]
          rw [hix]
          simp only [Option.bind]
          have hwr := widthV_range v
          by_cases k0 : kindV v = 0
          · obtain ⟨x, hx⟩ : ∃ x : Nat, v.2.2.1 = x := ⟨v.2.2.1.toNat, by have := hov.num; omega⟩
            obtain ⟨y, hy⟩ : ∃ y : Nat, u.2.2.1 = y := ⟨u.2.2.1.toNat, by have := hou.num; omega⟩
            have hb0 : (kindV u == 0) = true := by rw [hku, k0]; rfl
            rw [hb0, cond_true, num12 300 u y hy (by have := hou.num; omega), num12 300 v x hx (by have := hov.num; omega)]
            simp only [hwu]
            have hiff : eqV v u ↔ ((y % 256 ^ (widthV v).toNat : Nat) : Int) = ((x % 256 ^ (widthV v).toNat : Nat) : Int) := by
              unfold eqV
              rw [if_pos k0, hx, hy, Int.toNat_natCast, Int.toNat_natCast]
              omega
            by_cases h : eqV v u
            · have h' := hiff.1 h
              rw [h']
              simp [h]
            · have h' : ¬ _ := fun e => h (hiff.2 e)
              have hb : (((y % 256 ^ (widthV v).toNat : Nat) : Int) == ((x % 256 ^ (widthV v).toNat : Nat) : Int)) = false := by simpa using h'
              rw [hb]
              simp [h]
          · have hb0 : (kindV u == 0) = false := by rw [hku]; simpa using k0
            rw [hb0, cond_false]
            by_cases k1 : kindV v = 1
            · have hb1 : (kindV u == 1) = true := by rw [hku, k1]; rfl
              rw [hb1, cond_true, strEq_bytes hou.str hov.str]
              have hiff : eqV v u ↔ v.2.2.2.1 = u.2.2.2.1 := by unfold eqV; rw [if_neg k0, if_pos k1]
              by_cases h : eqV v u
              · simp [h, (hiff.1 h)]
              · have h' : ¬ u.2.2.2.1 = v.2.2.2.1 := fun e => h (hiff.2 e.symm)
                simp [h, h']
            · have hb1 : (kindV u == 1) = false := by rw [hku]; simpa using k1
              have hlu : u.2.2.2.2.length ≤ 255 := by
                unfold encV at heu
                rw [hku, if_neg k0, if_neg k1] at heu
                split at heu
                · cases heu
                · omega
              have hlv : v.2.2.2.2.length ≤ 255 := by
                unfold encV at hev
                rw [if_neg k0, if_neg k1] at hev
                split at hev
                · cases hev
                · omega
              rw [hb1, cond_false, same14' 300 _ _ (by omega) (by omega) (by omega)]
              have hiff : eqV v u ↔ v.2.2.2.2 = u.2.2.2.2 := by unfold eqV; rw [if_neg k0, if_neg k1]
              by_cases h : eqV v u
              · simp [h, (hiff.1 h)]
              · have h' : ¬ u.2.2.2.2 = v.2.2.2.2 := fun e => h (hiff.2 e.symm)
                simp [h, h']

end Go.Proofs.Ytpjfaodemfjfjaa
