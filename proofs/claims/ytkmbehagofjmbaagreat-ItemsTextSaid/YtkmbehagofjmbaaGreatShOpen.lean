/-
  What came in, as data: any type of numbers, truth values, strings, arrays, structs and slices. No project text.
-/
import Derived.Test.YtkmbehagofjmbaaGreatShTab
import Derived.ChangeArms
import Derived.OpenShut
import Derived.Deep.Slices
import Derived.Carry
namespace Go.Sh
open Go.Deep

/-- The data are as the program's types let them be. -/
def Ty.wf : (t : Ty) → t.den → Prop
  | .int k, (n : Int) => (Lit.int k n).wf = true
  | .bool, _ => True
  | .str, (s : ByteArray) => s.size ≤ maxLen
  | .un, _ => True
  | .sl t, (l : List t.den) => l.length ≤ maxLen ∧ ∀ x ∈ l, t.wf x
  | .pr a b, x => a.wf x.1 ∧ b.wf x.2

/-- How much the data hold. -/
def Ty.bulk : (t : Ty) → t.den → Nat
  | .int _, _ => 1
  | .bool, _ => 1
  | .str, (s : ByteArray) => s.size + 1
  | .un, _ => 0
  | .sl t, (l : List t.den) => (l.map t.bulk).sum + 1
  | .pr a b, x => a.bulk x.1 + b.bulk x.2

def laidFields (P : Program) (f : TypeId → Option Ty) (g : TypeId → Bool) (total : Nat) : List Field → Nat → Bool
  | [], off => Nat.beq off total
  | x :: fs, off => Nat.beq x.offset off && g x.type && (match f x.type with | some y => Nat.beq (P.cellsOf x.type) y.nc | none => false) && laidFields P f g total fs (off + P.cellsOf x.type)

/-- The type lies in memory as its data type says, all the way down. -/
def laidTy (P : Program) : Nat → TypeId → Bool
  | 0, _ => false
  | d + 1, t => match P.underlying t with
    | some (.int _) | some .bool | some .string => true
    | some (.slice e) => laidTy P d e && (match tyOf P d e with | some y => Nat.beq (P.cellsOf e) y.nc && Nat.ble 1 y.nc | none => false)
    | some (.array n e) => laidTy P d e && (match tyOf P d e with | some y => Nat.beq (P.cellsOf e) y.nc | none => false) && Nat.beq (P.cellsOf t) (n * P.cellsOf e)
    | some (.struct fs) => laidFields P (tyOf P d) (laidTy P d) (P.cellsOf t) fs.toList 0
    | _ => false

section
variable {H : Type} {enc : TypeId × Value → H} {P : Program} {w : World}

/-- A measure of what is read that is no less than what it holds. -/
structure Measure (m : DataW H → Nat) : Prop where
  one : ∀ d, 1 ≤ m d
  str : ∀ s, s.length + 1 ≤ m (.lit (.string s))
  sl : ∀ es sp, (es.map m).sum + 1 ≤ m (.slice es sp)
  agg : ∀ ps, (ps.map m).sum ≤ m (.agg ps)

/-- The datum behind cells that read. -/
def Opens (_P : Program) (w : World) (m : DataW H → Nat) (ty : Ty) (cs : List Value) (d : DataW H) : Prop :=
  ∃ a : ty.den, ty.cells w (fun _ => False) a cs ∧ ty.wf a ∧ ty.bulk a ≤ m d

theorem open_row {m : DataW H → Nat} {ty : Ty} {a : Addr} {n : Nat} (hn : 1 ≤ n) (D : Nat → DataW H) : ∀ len : Nat, (∀ i, i < len → ∃ cs', w.cells? 0 (a.add (i * n)) n = some cs' ∧ Opens P w m ty cs' (D i)) → ty.nc = n →
    ∃ (l : List ty.den) (xs : List Value), l.length = len ∧ rows (ty.cells w (fun _ => False)) l xs ∧ xs.length = len * n ∧ (∀ j c, xs[j]? = some c → w.cell? (a.add j) = some c) ∧ (∀ x ∈ l, ty.wf x) ∧ (l.map ty.bulk).sum ≤ (((List.range len).map D).map m).sum
  | 0, _, _ => ⟨[], [], rfl, rfl, by simp, by simp, by simp, by simp⟩
  | len + 1, h, hnc => by
    obtain ⟨l, xs, h1, h2, h3, h4, h5, h6⟩ := open_row hn D len (fun i hi => h i (by omega)) hnc
    obtain ⟨cs, hc, x, hx, hw, hb⟩ := h len (by omega)
    obtain ⟨_, hl, hi⟩ := World.cells?_some hc
    refine ⟨l ++ [x], xs ++ cs, by simp [h1], h2.app ⟨cs, [], by simp, hx, rfl⟩, by simp [h3, hl, Nat.add_mul], ?_, ?_, ?_⟩
    · intro j c hj
      rcases Nat.lt_or_ge j xs.length with hlt | hge
      · rw [List.getElem?_append_left hlt] at hj; exact h4 j c hj
      · rw [List.getElem?_append_right hge] at hj
        have hjl := (List.getElem?_eq_some_iff.1 hj).1
        have h7 := hi (j - xs.length) (by omega)
        rw [add_add, show len * n + (j - xs.length) = j by omega] at h7
        rw [h7, hj]
    · intro y hy
      rcases List.mem_append.1 hy with hy | hy
      · exact h5 y hy
      · simp at hy; subst hy; exact hw
    · rw [List.range_succ]
      simp only [List.map_append, List.map_cons, List.map_nil, List.sum_append, List.sum_cons, List.sum_nil]
      omega

theorem take_drop_add {α : Type} (l : List α) (i n : Nat) : l.drop i = (l.drop i).take n ++ l.drop (i + n) := by
  rw [← List.drop_drop, List.take_append_drop]

theorem open_fields {m : DataW H → Nat} {d : Nat} {total fuel : Nat}
    (ih : ∀ (t : TypeId) (ty : Ty), tyOf P d t = some ty → laidTy P d t = true → ∀ (cs : List Value) (x : DataW H × List MemPlace), DataW.trod enc P w 0 (fun _ => true) true fuel t cs = some x → Opens P w m ty cs x.1)
    {cs : List Value} (hcs : cs.length = total) : ∀ (fs : List Field) (off : Nat) (ty : Ty), tyFields (tyOf P d) fs = some ty → laidFields P (tyOf P d) (laidTy P d) total fs off = true →
    ∀ xs : List (DataW H × List MemPlace), xs.length = fs.length → (∀ (i : Nat) (f : Field), fs[i]? = some f → DataW.trod enc P w 0 (fun _ => true) true fuel f.type ((cs.drop f.offset).take (P.cellsOf f.type)) = xs[i]?) →
    ∃ a : ty.den, ty.cells w (fun _ => False) a (cs.drop off) ∧ ty.wf a ∧ ty.bulk a ≤ ((xs.map (·.1)).map m).sum := by
  intro fs
  induction fs with
  | nil =>
    intro off ty ht hl xs hx _
    simp only [tyFields, Option.some.injEq] at ht
    subst ht
    have : off = total := Nat.eq_of_beq_eq_true hl
    exact ⟨(), by simp only [Ty.cells]; rw [List.drop_eq_nil_of_le (by omega)], trivial, Nat.zero_le _⟩
  | cons f fs ihf =>
    intro off ty ht hl xs hx hall
    simp only [laidFields, Bool.and_eq_true] at hl
    obtain ⟨⟨⟨ho, hg⟩, hc⟩, hrest⟩ := hl
    have ho := Nat.eq_of_beq_eq_true ho
    match xs, hx with
    | x :: xs, hx =>
    have h0 := hall 0 f rfl
    simp only [List.getElem?_cons_zero] at h0
    have hall' : ∀ (i : Nat) (g : Field), fs[i]? = some g → DataW.trod enc P w 0 (fun _ => true) true fuel g.type ((cs.drop g.offset).take (P.cellsOf g.type)) = xs[i]? := fun i g hg => by
      have := hall (i + 1) g (by simpa using hg)
      simpa using this
    cases fs with
    | nil =>
      simp only [tyFields] at ht
      rw [ht] at hc
      have hc := Nat.eq_of_beq_eq_true hc
      obtain ⟨a, ha, hw, hb⟩ := ih f.type ty ht hg _ x h0
      have he : off + P.cellsOf f.type = total := Nat.eq_of_beq_eq_true hrest
      rw [ho, List.take_of_length_le (by simp; omega)] at ha
      exact ⟨a, ha, hw, by simp at hb ⊢; omega⟩
    | cons f2 fs =>
      simp only [tyFields, Option.bind_eq_some_iff, Option.map_eq_some_iff] at ht
      obtain ⟨y, hy, z, hz, rfl⟩ := ht
      rw [hy] at hc
      obtain ⟨a, ha, hw, hb⟩ := ih f.type y hy hg _ x h0
      obtain ⟨b, hb1, hb2, hb3⟩ := ihf (off + P.cellsOf f.type) z hz hrest xs (by simpa using hx) hall'
      refine ⟨(a, b), ⟨_, _, take_drop_add cs off (P.cellsOf f.type), by rw [← ho]; exact ha, hb1⟩, ⟨hw, hb2⟩, ?_⟩
      simp only [List.map_cons, List.sum_cons, Ty.bulk]
      exact Nat.add_le_add hb hb3

theorem open_array {m : DataW H → Nat} {ty : Ty} {c : Nat} {cs : List Value} (D : Nat → DataW H) : ∀ (n i : Nat), cs.length = (i + n) * c → (∀ j, j < i + n → Opens P w m ty ((cs.drop (j * c)).take c) (D j)) →
    Opens P w (fun _ => (((List.range n).map fun j => D (i + j)).map m).sum) (tyArr ty n) (cs.drop (i * c)) (D 0)
  | 0, i, hl, _ => ⟨(), by show cs.drop (i * c) = []; rw [List.drop_eq_nil_of_le (by simp [hl])], trivial, Nat.zero_le _⟩
  | 1, i, hl, h => by
    obtain ⟨a, ha, hw, hb⟩ := h i (by omega)
    rw [List.take_of_length_le (by simp [hl, Nat.add_mul])] at ha
    refine ⟨a, ha, hw, ?_⟩
    show ty.bulk a ≤ _
    simpa using hb
  | n + 2, i, hl, h => by
    obtain ⟨a, ha, hw, hb⟩ := h i (by omega)
    obtain ⟨b, hb1, hb2, hb3⟩ := open_array D (n + 1) (i + 1) (by rw [hl]; congr 1; omega) (fun j hj => h j (by omega))
    refine ⟨(a, b), ⟨_, _, take_drop_add cs (i * c) c, ha, by rw [show i * c + c = (i + 1) * c by rw [Nat.add_mul, Nat.one_mul]]; exact hb1⟩, ⟨hw, hb2⟩, ?_⟩
    rw [List.range_succ_eq_map]
    simp only [List.map_cons, List.sum_cons, List.map_map, Nat.add_zero] at hb hb3 ⊢
    refine Nat.add_le_add hb (Nat.le_trans hb3 (Nat.le_of_eq ?_))
    congr 1
    refine List.map_congr_left fun j _ => ?_
    simp only [Function.comp, Nat.succ_eq_add_one]
    rw [show i + 1 + j = i + (j + 1) by omega]

/-- Whatever reads is a datum. -/
theorem open_ty {m : DataW H → Nat} (hm : Measure m) : ∀ (d : Nat) (t : TypeId) (ty : Ty), tyOf P d t = some ty → laidTy P d t = true → ∀ (fuel : Nat) (cs : List Value) (x : DataW H × List MemPlace),
    DataW.trod enc P w 0 (fun _ => true) true fuel t cs = some x → Opens P w m ty cs x.1 := by
  intro d
  induction d with
  | zero => intro t ty h; simp [tyOf] at h
  | succ d ih =>
    intro t ty ht hl fuel cs x hx
    simp only [tyOf] at ht
    simp only [laidTy] at hl
    split at ht
    · rename_i k hu
      simp only [Option.some.injEq] at ht
      subst ht
      obtain ⟨n, rfl, rfl, hw⟩ := DataW.trod_int hu hx
      exact ⟨n, rfl, hw, hm.one _⟩
    · rename_i hu
      simp only [Option.some.injEq] at ht
      subst ht
      obtain ⟨b, rfl, rfl⟩ := DataW.trod_bool hu hx
      exact ⟨b, rfl, trivial, hm.one _⟩
    · rename_i hu
      simp only [Option.some.injEq] at ht
      subst ht
      obtain ⟨s, rfl, rfl, hs⟩ := DataW.trod_string hu hx
      refine ⟨s, rfl, hs, ?_⟩
      have := hm.str s.data.toList
      simpa [Ty.bulk] using this
    · rename_i e hu
      simp only [Option.map_eq_some_iff] at ht
      obtain ⟨y, hy, rfl⟩ := ht
      simp only [hu, hy, Bool.and_eq_true] at hl
      obtain ⟨hl1, hl2, hl3⟩ := hl
      have hl2 := Nat.eq_of_beq_eq_true hl2
      have hl3 := Nat.le_of_ble_eq_true hl3
      rcases open_slice hu hx with ⟨rfl, rfl⟩ | ⟨a, len, cap, k, n, D, Pl, rfl, _, hlc, hcm, hk, rfl, hel⟩
      · exact ⟨[], ⟨_, rfl, .inl ⟨⟨_, rfl⟩, rfl⟩⟩, ⟨Nat.zero_le _, by simp⟩, hm.one _⟩
      · simp only [if_true] at hk
        subst hk
        rw [hl2] at hel
        obtain ⟨l, xs, h1, h2, h3, h4, h5, h6⟩ := open_row (P := P) (w := w) (m := m) (ty := y) (a := a) hl3 D len (fun i hi => by
          obtain ⟨cs', hc, hx'⟩ := hel i (by omega)
          exact ⟨cs', hc, ih e y hy hl1 _ _ _ hx'⟩) rfl
        refine ⟨l, ⟨_, rfl, ?_⟩, ⟨by omega, h5⟩, Nat.le_trans (Nat.succ_le_succ h6) (hm.sl _ _)⟩
        rcases Nat.eq_zero_or_pos k with hk0 | hk0
        · have : len = 0 := by omega
          subst this
          subst hk0
          exact .inl ⟨⟨_, rfl⟩, List.length_eq_zero_iff.1 h1⟩
        · obtain ⟨cs', hc, _⟩ := hel 0 hk0
          obtain ⟨_, hlen, hi⟩ := World.cells?_some hc
          have hspot : a.spot = none := by
            have := hi 0 (by omega)
            simp only [Nat.zero_mul, Addr.add, if_pos] at this
            rw [List.getElem?_eq_getElem (by omega)] at this
            unfold World.cell? at this
            split at this
            · split at this
              · cases this
              · rename_i h; simpa using h
            · cases this
          obtain ⟨b, off, sp⟩ := a
          simp only at hspot
          subst hspot
          refine .inr ⟨b, off, k, xs, by rw [h1], by omega, h2, fun j c hj => ?_, .inr (fun h => h)⟩
          have := h4 j c hj
          rwa [addr_add] at this
    · rename_i n e hu
      simp only [Option.map_eq_some_iff] at ht
      obtain ⟨y, hy, rfl⟩ := ht
      simp only [hu, hy, Bool.and_eq_true] at hl
      obtain ⟨⟨hl1, hl2⟩, hl3⟩ := hl
      have hl2 := Nat.eq_of_beq_eq_true hl2
      have hl3 := Nat.eq_of_beq_eq_true hl3
      obtain ⟨xs, k, rfl, rfl, hlen, hxn, hel⟩ := DataW.trod_array hu hx
      have := open_array (P := P) (w := w) (m := m) (ty := y) (c := P.cellsOf e) (cs := cs) (fun i => ((xs[i]?).getD (.nil, [])).1) n 0 (by rw [hlen, hl3, Nat.zero_add]) (fun j hj => by
        have h1 := hel j (by omega)
        rw [List.getElem?_eq_getElem (by omega)] at h1
        have := ih e y hy hl1 _ _ _ h1
        simpa [List.getElem?_eq_getElem (show j < xs.length by omega)] using this)
      simp only [Nat.zero_mul, List.drop_zero] at this
      obtain ⟨a, ha, hw, hb⟩ := this
      refine ⟨a, ha, hw, Nat.le_trans hb (Nat.le_trans (Nat.le_of_eq ?_) (hm.agg _))⟩
      simp only
      congr 2
      apply List.ext_getElem?
      intro i
      rcases Nat.lt_or_ge i n with hi | hi
      · simp [List.getElem?_eq_getElem (show i < xs.length by omega), hi]
      · simp [List.getElem?_eq_none (show xs.length ≤ i by omega), hi]
    · rename_i fs hu
      simp only [hu] at hl
      obtain ⟨xs, k, rfl, rfl, hlen, hxn, hel⟩ := DataW.trod_struct hu hx
      obtain ⟨a, ha, hw, hb⟩ := open_fields (m := m) (enc := enc) (P := P) (w := w) (d := d) (fuel := k) (fun t ty h1 h2 cs x hx => ih t ty h1 h2 k cs x hx) hlen fs.toList 0 ty ht hl xs (by simpa using hxn) (fun i f hf => hel i f (by simpa using hf))
      rw [List.drop_zero] at ha
      exact ⟨a, ha, hw, Nat.le_trans hb (hm.agg _)⟩
    · cases ht

end
end Go.Sh
