/-
  The law of reading back in plain Lean.
-/
import Derived.Test.YtpjfaodemfjfjaaBak
set_option maxRecDepth 100000
set_option linter.unusedVariables false
namespace Go.Proofs.Ytpjfaodemfjfjaa
open Go Go.Sh Go.Proofs

theorem wrapU_range (x : Int) : 0 ≤ IntKind.u64.wrap x ∧ IntKind.u64.wrap x ≤ 18446744073709551615 := by
  simp only [IntKind.wrap, IntKind.bits, IntKind.signed]
  simp
  omega

theorem widthV_range (v : Val) : 1 ≤ widthV v ∧ widthV v ≤ 8 := by
  unfold widthV
  have h0 := wrapU_range v.2.1
  have h1 : (IntKind.u64.wrap v.2.1).tmod 8 = IntKind.u64.wrap v.2.1 % 8 := Int.tmod_eq_emod_of_nonneg h0.1
  rw [h1, wrap64 (x := IntKind.u64.wrap v.2.1 % 8) (by omega) (by omega), wrap64 (by omega) (by omega)]
  omega

theorem fold_bytes (v : Nat) : ∀ (n : Nat) (acc m : Nat), acc < 256 ^ m → m + n ≤ 8 → (bytesP v n).foldl step (acc : Int) = ((acc * 256 ^ n + v % 256 ^ n : Nat) : Int)
  | 0, acc, m, _, _ => by simp [bytesP, Nat.mod_one]
  | n + 1, acc, m, h, hm => by
    have h7 : 256 ^ m ≤ 256 ^ 7 := Nat.pow_le_pow_right (by omega) (by omega)
    have hlow : low (v : Int) (8 * (n : Int)) = ((v / 256 ^ n % 256 : Nat) : Int) := by
      have := low_div (v : Int) (8 * n) (by omega)
      rw [show ((8 * n : Nat) : Int) = 8 * (n : Int) by simp] at this
      rw [this, Int.pow_mul, show (2 : Int) ^ 8 = 256 by decide]
      simp
    have hs : step (acc : Int) (low (v : Int) (8 * (n : Int))) = ((acc * 256 + v / 256 ^ n % 256 : Nat) : Int) := by
      rw [hlow, step_eq (by omega) (by omega) (by omega) (by omega)]
      omega
    simp only [bytesP, List.foldl_cons]
    rw [hs, fold_bytes v n _ (m + 1) (by rw [Nat.pow_succ]; omega) (by omega)]
    congr 1
    rw [Nat.pow_succ 256 n, Nat.mod_mul, Nat.add_mul]
    have e1 : acc * 256 * 256 ^ n = acc * (256 ^ n * 256) := by rw [Nat.mul_assoc, Nat.mul_comm 256]
    have e2 : v / 256 ^ n % 256 * 256 ^ n = 256 ^ n * (v / 256 ^ n % 256) := Nat.mul_comm _ _
    rw [e1, e2]
    omega

theorem bytesP_bytes (v : Int) : ∀ n, Bytes (bytesP v n)
  | 0 => fun _ h => by simp [bytesP] at h
  | n + 1 => fun c h => by
    simp only [bytesP, List.mem_cons] at h
    rcases h with rfl | h
    · unfold low
      rw [wrap8]
      omega
    · exact bytesP_bytes v n c h

theorem uint_at (pre e post : List Int) (n : Nat) (h : e.length = n) (h1 : 1 ≤ n) (h8 : n ≤ 8) : uintP (pre ++ (e ++ post)) pre.length n = (e.foldl step 0, true) := by
  unfold uintP
  rw [if_pos ⟨by omega, by omega, by omega, by simp only [List.length_append]; omega⟩, Int.toNat_natCast, Int.toNat_natCast, List.drop_left, List.take_left' h]

theorem number_at (pre post : List Int) (v n : Nat) (h1 : 1 ≤ n) (h8 : n ≤ 8) : uintP (pre ++ (bytesP v n ++ post)) pre.length n = (((v % 256 ^ n : Nat) : Int), true) := by
  rw [uint_at pre _ post n (bytesP_length _ _) h1 h8]
  have := fold_bytes v n 0 0 (by decide) (by omega)
  simp at this
  simp [this]

theorem num12 (K : Nat) (v : Val) (n : Nat) (hn : v.2.2.1 = n) (h : n < 18446744073709551616) : F12 K (v, ()) = some (((n % 256 ^ (widthV v).toNat : Nat) : Int), ()) := by
  rw [eq12, hn]
  have hw := widthV_range v
  obtain ⟨w, hw'⟩ : ∃ w : Nat, widthV v = w := ⟨(widthV v).toNat, by omega⟩
  rw [hw'] at hw ⊢
  rw [Int.toNat_natCast]
  by_cases h8 : w = 8
  · subst h8
    have : n % 256 ^ 8 = n := Nat.mod_eq_of_lt (by omega)
    rw [this]
    rfl
  · have hb : ((w : Int) == 8) = false := by simp; omega
    rw [hb, cond_false, wrap64 (x := 8 * (w : Int)) (by omega) (by omega), wrapU (x := 8 * (w : Int)) (by omega) (by omega), bf (by omega)]
    have h56 : 2 ^ (8 * w) ≤ 2 ^ 56 := Nat.pow_le_pow_right (by omega) (by omega)
    have hp : 0 < 2 ^ (8 * w) := Nat.pow_pos (by omega)
    have hs : shl .u64 1 (8 * (w : Int)) = ((2 ^ (8 * w) : Nat) : Int) := by
      unfold shl
      rw [show (8 * (w : Int)).toNat = 8 * w by omega, show min (8 * w) IntKind.u64.bits = 8 * w from Nat.min_eq_left (by show 8 * w ≤ 64; omega), Int.one_mul]
      have e : ((2 : Int) ^ (8 * w)) = ((2 ^ (8 * w) : Nat) : Int) := by simp
      rw [e, wrapU (by omega) (by omega)]
    rw [hs, wrapU (x := ((2 ^ (8 * w) : Nat) : Int) - 1) (by omega) (by omega)]
    have e3 : (BitVec.ofInt 64 (n : Int) &&& BitVec.ofInt 64 (((2 ^ (8 * w) : Nat) : Int) - 1)).toNat = n % 256 ^ w := by
      rw [BitVec.toNat_and]
      have q1 : (BitVec.ofInt 64 (n : Int)).toNat = n := by simp only [BitVec.ofInt_natCast, BitVec.toNat_ofNat]; omega
      have q2 : (BitVec.ofInt 64 (((2 ^ (8 * w) : Nat) : Int) - 1)).toNat = 2 ^ (8 * w) - 1 := by
        rw [show (((2 ^ (8 * w) : Nat) : Int) - 1) = ((2 ^ (8 * w) - 1 : Nat) : Int) by omega]
        simp only [BitVec.ofInt_natCast, BitVec.toNat_ofNat]
        omega
      rw [q1, q2, Nat.and_two_pow_sub_one_eq_mod, Nat.pow_mul]
    rw [e3, wrapU (by omega) ?_]
    have : n % 256 ^ w ≤ n := Nat.mod_le _ _
    omega

/-- A value's bytes. -/
def encV (v : Val) : Option (List Int) :=
  if kindV v = 0 then some (bytesP v.2.2.1 (widthV v).toNat)
  else if kindV v = 1 then (if v.2.2.2.1.length > 65535 then none else some (bytesP v.2.2.2.1.length 2 ++ v.2.2.2.1))
  else (if v.2.2.2.2.length > 255 then none else some (bytesP v.2.2.2.2.length 1 ++ allB v.2.2.2.2))

def szV (v : Val) : Nat := 12 + v.2.2.2.1.length + 8 * v.2.2.2.2.length

theorem encV_length {v : Val} {e : List Int} (h : encV v = some e) : e.length ≤ szV v := by
  have hw := widthV_range v
  unfold encV at h
  unfold szV
  split at h
  · simp only [Option.some.injEq] at h; subst h; rw [bytesP_length]; omega
  · split at h
    · split at h
      · cases h
      · simp only [Option.some.injEq] at h; subst h; simp only [List.length_append, bytesP_length]; omega
    · split at h
      · cases h
      · simp only [Option.some.injEq] at h; subst h; simp only [List.length_append, bytesP_length, allB_length]; omega

/-- The bytes of a row of values, behind others; not, if one cannot be appended. -/
def wr : List Int → List Val → List Int × Bool
  | b, [] => (b, true)
  | b, v :: l => match encV v with
    | some e => wr (b ++ e) l
    | none => ([], false)

theorem ix_lt {α : Type} (l : List α) (i : Nat) (h : i < l.length) : ix l (i : Int) = some l[i] := by
  rw [ix_nat, List.getElem?_eq_getElem h]

theorem run10 (K : Nat) (hK : 256 < K) (l : List Val) (hl : l.length ≤ 60) : ∀ (r i k : Nat) (b : List Int), l.length - i = r → i ≤ l.length → r < k → b.length + ((l.drop i).map szV).sum ≤ 70368744177664 →
    l10_3 K k ((b, l, true, (i : Int), ()), ()) = some (((wr b (l.drop i)).1, (wr b (l.drop i)).2, ()), ()) := by
  intro r
  induction r with
  | zero =>
    intro i k b h1 h2 h3 h4
    obtain ⟨k, rfl⟩ : ∃ k', k = k' + 1 := ⟨k - 1, by omega⟩
    rw [eq10_3, bf (by omega), List.drop_eq_nil_of_le (by omega)]
    rfl
  | succ r ih =>
    intro i k b h1 h2 h3 h4
    obtain ⟨k, rfl⟩ : ∃ k', k = k' + 1 := ⟨k - 1, by omega⟩
    have hi : i < l.length := by omega
    rw [List.drop_eq_getElem_cons hi] at h4 ⊢
    simp only [List.map_cons, List.sum_cons] at h4
    rw [eq10_3, bt (by omega), ix_lt l i hi, wrap64 (x := (i : Int) + 1) (by omega) (by omega), show ((i : Int) + 1) = ((i + 1 : Nat) : Int) by omega]
    simp only [Option.bind, cond_true]
    generalize hv : l[i] = v at *
    have hw := widthV_range v
    have hnext : ∀ e, encV v = some e → l10_3 K k ((b ++ e, l, true, ((i + 1 : Nat) : Int), ()), ()) = some (((wr b (v :: l.drop (i + 1))).1, (wr b (v :: l.drop (i + 1))).2, ()), ()) := by
      intro e he
      have := encV_length he
      rw [ih (i + 1) k (b ++ e) (by omega) (by omega) (by omega) (by simp only [List.length_append]; omega)]
      simp only [wr, he]
    have hbad : encV v = none → l10_3 K k (([], l, false, ((i + 1 : Nat) : Int), ()), ()) = some (((wr b (v :: l.drop (i + 1))).1, (wr b (v :: l.drop (i + 1))).2, ()), ()) := by
      intro he
      obtain ⟨k, rfl⟩ : ∃ k', k = k' + 1 := ⟨k - 1, by omega⟩
      rw [eq10_3]
      simp only [wr, he, cond_false]
      cases decide (((i + 1 : Nat) : Int) < l.length) <;> rfl
    have hsz : b.length + szV v ≤ 70368744177664 := by omega
    unfold szV at hsz
    by_cases h0 : kindV v = 0
    · have he : encV v = some (bytesP v.2.2.1 (widthV v).toNat) := by unfold encV; rw [if_pos h0]
      have hc : clamp (widthV v) = (widthV v).toNat := by unfold clamp; rw [if_neg (by omega), if_neg (by omega)]
      rw [h0, app15 K (by omega) b _ _ (by have := clamp_le (widthV v); omega), hc]
      exact hnext _ he
    · have hb0 : (kindV v == 0) = false := by simpa using h0
      rw [hb0, cond_false]
      by_cases h1' : kindV v = 1
      · rw [h1', app16 K (by omega) b _ (by omega)]
        simp only [beq_self_eq_true, cond_true, appP]
        split
        · rename_i hbig
          exact hbad (by unfold encV; rw [if_neg h0, if_pos h1', if_pos hbig])
        · rename_i hbig
          rw [List.append_assoc]
          exact hnext _ (by unfold encV; rw [if_neg h0, if_pos h1', if_neg hbig])
      · have hb1 : (kindV v == 1) = false := by simpa using h1'
        rw [hb1, cond_false, app17 K (by omega) b _ (by omega)]
        simp only [appN]
        split
        · rename_i hbig
          exact hbad (by unfold encV; rw [if_neg h0, if_neg h1', if_pos hbig])
        · rename_i hbig
          rw [List.append_assoc]
          exact hnext _ (by unfold encV; rw [if_neg h0, if_neg h1', if_neg hbig])

/-- Which values cannot be appended. -/
theorem encV_none {v : Val} (h : encV v = none) : v.2.2.2.1.length > 65535 ∨ v.2.2.2.2.length > 255 := by
  unfold encV at h
  split at h
  · cases h
  · split at h
    · split at h
      · exact .inl ‹_›
      · cases h
    · split at h
      · exact .inr ‹_›
      · cases h

theorem wr_false : ∀ (l : List Val) (b : List Int), (wr b l).2 = false → ∃ v ∈ l, encV v = none
  | [], _, h => by cases h
  | v :: l, b, h => by
    simp only [wr] at h
    split at h
    · obtain ⟨u, hu, he⟩ := wr_false l _ h
      exact ⟨u, List.mem_cons_of_mem _ hu, he⟩
    · rename_i he
      exact ⟨v, List.mem_cons_self .., he⟩

/-- The bytes of a row of values. -/
def catV : List Val → List Int
  | [] => []
  | v :: l => (encV v).getD [] ++ catV l

theorem wr_true : ∀ (l : List Val) (b : List Int), (wr b l).2 = true → (wr b l).1 = b ++ catV l ∧ ∀ v ∈ l, ∃ e, encV v = some e
  | [], b, _ => ⟨by simp [wr, catV], by simp⟩
  | v :: l, b, h => by
    simp only [wr] at h ⊢
    split at h
    · rename_i e he
      obtain ⟨h1, h2⟩ := wr_true l _ h
      simp only [he, catV, Option.getD_some]
      refine ⟨by rw [h1, List.append_assoc], fun u hu => ?_⟩
      rcases List.mem_cons.1 hu with rfl | hu
      · exact ⟨e, he⟩
      · exact h2 u hu
    · cases h

theorem awake9'' : F9 300 () = some (true, ()) := by kernel_rfl

theorem run8_6 (l : List Val) (hl : l.length ≤ 60) : ∀ (r i k : Nat), l.length - i = r → i ≤ l.length → r < k → (∃ v ∈ l.drop i, encV v = none) → l8_6 300 k ((l, (i : Int), ()), ()) = some (.inr ((true, ()), ())) := by
  intro r
  induction r with
  | zero =>
    rintro i k h1 h2 h3 ⟨v, hv, _⟩
    rw [List.drop_eq_nil_of_le (by omega)] at hv
    cases hv
  | succ r ih =>
    rintro i k h1 h2 h3 ⟨v, hv, he⟩
    obtain ⟨k, rfl⟩ : ∃ k', k = k' + 1 := ⟨k - 1, by omega⟩
    have hi : i < l.length := by omega
    rw [List.drop_eq_getElem_cons hi] at hv
    rw [eq8_6, bt (by omega), ix_lt l i hi, wrap64 (x := (i : Int) + 1) (by omega) (by omega), show ((i : Int) + 1) = ((i + 1 : Nat) : Int) by omega, awake9'']
    simp only [Option.bind]
    by_cases hb : (l[i].2.2.2.1.length : Int) > 65535
    · rw [bt hb]
    · rw [bf hb]
      by_cases hb2 : (l[i].2.2.2.2.length : Int) > 255
      · rw [bt hb2]
      · rw [bf hb2]
        refine ih (i + 1) k (by omega) (by omega) (by omega) ⟨v, ?_, he⟩
        rcases List.mem_cons.1 hv with rfl | hv
        · rcases encV_none he with h | h <;> omega
        · exact hv

theorem rdN_at (pre : List Int) : ∀ (l : List Nam) (q : List Int) (post : List Int), rdN (pre ++ (q ++ (allB l ++ post))) (pre.length + q.length) l.length = l
  | [], q, post => rfl
  | x :: l, q, post => by
    have h := rdN_at pre l (q ++ nb x) post
    simp only [List.length_append, nb_length, List.append_assoc] at h
    simp only [List.length_cons, rdN, allB_cons, List.append_assoc]
    rw [Nat.add_assoc, h]
    congr 1
    obtain ⟨x0, x1, x2, x3, x4, x5, x6, x7⟩ := x
    have g : ∀ j : Nat, (pre ++ (q ++ (nb (x0, x1, x2, x3, x4, x5, x6, x7) ++ (allB l ++ post)))).getD (pre.length + q.length + j) 0 = (nb (x0, x1, x2, x3, x4, x5, x6, x7) ++ (allB l ++ post)).getD j 0 := by
      intro j
      rw [List.getD_eq_getElem?_getD, List.getD_eq_getElem?_getD, List.getElem?_append_right (by omega), List.getElem?_append_right (by omega)]
      congr 2
      omega
    unfold nm
    have g0 := g 0
    rw [Nat.add_zero] at g0
    rw [g0, g 1, g 2, g 3, g 4, g 5, g 6, g 7]
    rfl

structure Okay (v : Val) : Prop where
  num : 0 ≤ v.2.2.1 ∧ v.2.2.1 < 18446744073709551616
  str : Bytes v.2.2.2.1
  nam : ∀ x ∈ v.2.2.2.2, Bytes (nb x)

theorem allB_bytes : ∀ {l : List Nam}, (∀ x ∈ l, Bytes (nb x)) → Bytes (allB l)
  | [], _ => fun _ h => by cases h
  | x :: l, h => fun c hc => by
    rw [allB_cons] at hc
    rcases List.mem_append.1 hc with hc | hc
    · exact h x (List.mem_cons_self ..) c hc
    · exact allB_bytes (fun y hy => h y (List.mem_cons_of_mem _ hy)) c hc

theorem Bytes.app {a b : List Int} (ha : Bytes a) (hb : Bytes b) : Bytes (a ++ b) := fun c hc => by
  rcases List.mem_append.1 hc with hc | hc
  · exact ha c hc
  · exact hb c hc

theorem encV_bytes {v : Val} (ho : Okay v) {e : List Int} (h : encV v = some e) : Bytes e := by
  unfold encV at h
  split at h
  · simp only [Option.some.injEq] at h; subst h; exact bytesP_bytes _ _
  · split at h
    · split at h
      · cases h
      · simp only [Option.some.injEq] at h; subst h; exact (bytesP_bytes _ _).app ho.str
    · split at h
      · cases h
      · simp only [Option.some.injEq] at h; subst h; exact (bytesP_bytes _ _).app (allB_bytes ho.nam)

theorem catV_bytes : ∀ {l : List Val}, (∀ v ∈ l, Okay v) → Bytes (catV l)
  | [], _ => fun _ h => by cases h
  | v :: l, h => by
    have h2 := catV_bytes fun u hu => h u (List.mem_cons_of_mem _ hu)
    cases he : encV v with
    | none => simpa [catV, he] using h2
    | some e => simpa [catV, he] using (encV_bytes (h v (List.mem_cons_self ..)) he).app h2

theorem readP_at (pre p post : List Int) (h : p.length ≤ 65535) : readP (pre ++ (bytesP p.length 2 ++ p ++ post)) pre.length = (p, ((pre ++ (bytesP p.length 2 ++ p)).length : Int), true) := by
  unfold readP
  have h1 := number_at pre (p ++ post) p.length 2 (by omega) (by omega)
  rw [← List.append_assoc, ← List.append_assoc] at h1
  have e : p.length % 256 ^ 2 = p.length := Nat.mod_eq_of_lt (by omega)
  rw [e] at h1
  simp only [show ((2 : Nat) : Int) = 2 from rfl] at h1
  rw [← List.append_assoc, ← List.append_assoc, h1]
  rw [if_pos ⟨rfl, by simp only [List.length_append, bytesP_length]; omega⟩]
  simp only [sub]
  rw [show ((pre.length : Int) + 2 + p.length).toNat - ((pre.length : Int) + 2).toNat = p.length by omega, show ((pre.length : Int) + 2).toNat = (pre ++ bytesP (p.length : Int) 2).length by simp only [List.length_append, bytesP_length]; omega]
  rw [List.append_assoc (pre ++ bytesP _ 2), List.drop_left, List.take_left' rfl]
  simp only [List.length_append, bytesP_length, Prod.mk.injEq, and_true, true_and]
  omega

theorem readN_at (pre post : List Int) (l : List Nam) (h : l.length ≤ 255) : readN (pre ++ (bytesP l.length 1 ++ allB l ++ post)) pre.length = (l, ((pre ++ (bytesP l.length 1 ++ allB l)).length : Int), true) := by
  unfold readN
  have h1 := number_at pre (allB l ++ post) l.length 1 (by omega) (by omega)
  rw [← List.append_assoc (bytesP _ 1)] at h1
  have e : l.length % 256 ^ 1 = l.length := Nat.mod_eq_of_lt (by omega)
  rw [e] at h1
  simp only [show ((1 : Nat) : Int) = 1 from rfl] at h1
  rw [h1]
  rw [if_pos ⟨rfl, by simp only [List.length_append, bytesP_length, allB_length]; omega⟩]
  have h2 := rdN_at pre l (bytesP l.length 1) post
  rw [bytesP_length] at h2
  simp only [List.append_assoc] at h2 ⊢
  rw [show ((pre.length : Int) + 1).toNat = pre.length + 1 by omega, Int.toNat_natCast, h2]
  simp only [List.length_append, bytesP_length, allB_length, Prod.mk.injEq, and_true, true_and]
  omega

theorem run8_13 (l : List Val) (hl : l.length ≤ 60) (hok : ∀ v ∈ l, Okay v) (hen : ∀ v ∈ l, ∃ e, encV v = some e) : ∀ (r i k : Nat) (pre b : List Int), l.length - i = r → i ≤ l.length → r < k → b = pre ++ catV (l.drop i) → Bytes b → b.length ≤ 70368744177664 →
    l8_13 300 k ((l, b, (pre.length : Int), (i : Int), ()), ()) = some (.inl ((b, (b.length : Int), ()), ())) := by
  intro r
  induction r with
  | zero =>
    intro i k pre b h1 h2 h3 h4 h5 h6
    obtain ⟨k, rfl⟩ : ∃ k', k = k' + 1 := ⟨k - 1, by omega⟩
    rw [List.drop_eq_nil_of_le (by omega)] at h4
    simp only [catV, List.append_nil] at h4
    subst h4
    rw [eq8_13, bf (by omega)]
  | succ r ih =>
    intro i k pre b h1 h2 h3 h4 h5 h6
    obtain ⟨k, rfl⟩ : ∃ k', k = k' + 1 := ⟨k - 1, by omega⟩
    have hi : i < l.length := by omega
    have hm : l[i] ∈ l := List.getElem_mem hi
    have ho := hok _ hm
    obtain ⟨e, he⟩ := hen _ hm
    rw [List.drop_eq_getElem_cons hi] at h4
    simp only [catV, he, Option.getD_some] at h4
    have hnext : l8_13 300 k ((l, b, ((pre ++ e).length : Int), ((i + 1 : Nat) : Int), ()), ()) = some (.inl ((b, (b.length : Int), ()), ())) :=
      ih (i + 1) k (pre ++ e) b (by omega) (by omega) (by omega) (by rw [h4, List.append_assoc]) h5 h6
    rw [eq8_13, bt (by omega), ix_lt l i hi, wrap64 (x := (i : Int) + 1) (by omega) (by omega), show ((i : Int) + 1) = ((i + 1 : Nat) : Int) by omega]
    simp only [Option.bind]
    generalize hv : l[i] = v at *
    have hw := widthV_range v
    have hlb : pre.length + e.length ≤ b.length := by rw [h4]; simp only [List.length_append]; omega
    by_cases h0 : kindV v = 0
    · have he' : e = bytesP v.2.2.1 (widthV v).toNat := by
        unfold encV at he; rw [if_pos h0] at he; exact (Option.some.inj he).symm
      obtain ⟨n, hn⟩ : ∃ n : Nat, v.2.2.1 = n := ⟨v.2.2.1.toNat, by have := ho.num; omega⟩
      obtain ⟨w, hw'⟩ : ∃ w : Nat, widthV v = w := ⟨(widthV v).toNat, by omega⟩
      have hu : uintP b (pre.length : Int) (widthV v) = (((n % 256 ^ (widthV v).toNat : Nat) : Int), true) := by
        rw [h4, he', hn, hw', Int.toNat_natCast]
        exact number_at pre _ n w (by omega) (by omega)
      rw [h0, uint18 300 (by omega) b (by omega), num12 300 v n hn (by have := ho.num; omega), hu]
      simp only [beq_self_eq_true, cond_true, Bool.not_true, cond_false, bne_self_eq_false]
      have hel : e.length = (widthV v).toNat := by rw [he', bytesP_length]
      rw [wrap64 (x := (pre.length : Int) + widthV v) (by omega) (by omega), show (pre.length : Int) + widthV v = ((pre ++ e).length : Int) by simp only [List.length_append]; omega]
      exact hnext
    · have hb0 : (kindV v == 0) = false := by simpa using h0
      rw [hb0, cond_false]
      by_cases h1' : kindV v = 1
      · unfold encV at he
        rw [if_neg h0, if_pos h1'] at he
        split at he
        · cases he
        · rename_i hs
          have he' := (Option.some.inj he).symm
          have hu : readP b (pre.length : Int) = (v.2.2.2.1, ((pre ++ e).length : Int), true) := by
            rw [h4, he']
            exact readP_at pre _ _ (by omega)
          rw [h1', read22 300 (by omega) b h6 h5, hu]
          simp only [beq_self_eq_true, cond_true, Bool.not_true, cond_false, strEq_refl]
          exact hnext
      · have hb1 : (kindV v == 1) = false := by simpa using h1'
        unfold encV at he
        rw [if_neg h0, if_neg h1'] at he
        split at he
        · cases he
        · rename_i hs
          have he' := (Option.some.inj he).symm
          have hu : readN b (pre.length : Int) = (v.2.2.2.2, ((pre ++ e).length : Int), true) := by
            rw [h4, he']
            exact readN_at pre _ _ (by omega)
          rw [hb1, cond_false, read25 300 (by omega) b h6 h5, hu]
          simp only [Bool.not_true, cond_false]
          rw [same14 300 _ (by omega) (by omega)]
          simp only [Bool.not_true, cond_false]
          exact hnext

theorem law8 (b : List Int) (l : List Val) (hb : Bytes b) (hok : ∀ v ∈ l, Okay v) (hl : b.length + (l.map szV).sum ≤ 70368744177664) : F8 300 (b, l, ()) = some (true, ()) := by
  rw [eq8, awake9'']
  by_cases h60 : (l.length : Int) > 60
  · rw [bt h60]; rfl
  · rw [bf h60]
    have hw := run10 300 (by omega) l (by omega) l.length 0 300 b (by omega) (by omega) (by omega) (by simpa using hl)
    simp only [List.drop_zero] at hw
    rw [eq10, show (0 : Int) = ((0 : Nat) : Int) from rfl, hw]
    simp only [Option.bind]
    cases ho : (wr b l).2 with
    | false =>
      have h6 := run8_6 l (by omega) l.length 0 300 (by omega) (by omega) (by omega) (by simpa using wr_false l b ho)
      simp only [Bool.not_false, cond_true, h6]
    | true =>
      obtain ⟨h1, h2⟩ := wr_true l b ho
      have hlen : (catV l).length ≤ (l.map szV).sum := by
        have : ∀ l : List Val, (∀ v ∈ l, ∃ e, encV v = some e) → (catV l).length ≤ (l.map szV).sum := by
          intro l
          induction l with
          | nil => intro _; simp [catV]
          | cons v l ih =>
            intro h
            obtain ⟨e, he⟩ := h v (List.mem_cons_self ..)
            have := ih fun u hu => h u (List.mem_cons_of_mem _ hu)
            have := encV_length he
            simp only [catV, he, Option.getD_some, List.length_append, List.map_cons, List.sum_cons]
            omega
        exact this l h2
      have h13 := run8_13 l (by omega) hok h2 l.length 0 300 b (b ++ catV l) (by omega) (by omega) (by omega) (by simp) (hb.app (catV_bytes hok)) (by simp only [List.length_append]; omega)
      rw [h1]
      simp only [Bool.not_true, cond_false, h13, beq_self_eq_true, cond_true]

end Go.Proofs.Ytpjfaodemfjfjaa
