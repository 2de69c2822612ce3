/-
  What the shadow evaluator's states say of the model's worlds: the relation, and how it is carried over changes. No project text.
-/
import Derived.Test.YtkmbehagofjmbaaGreatShEval
import Derived.Below
import Derived.Laws.AppendOwn
import Derived.Laws.MakeOwn
import Derived.Laws.OwnMore
import Derived.Laws.Slices
import Derived.Laws.CopyRow
import Derived.WalkKit
namespace Go.Sh

def all2 {α β : Type} (R : α → β → Prop) : List α → List β → Prop
  | [], [] => True
  | a :: l, b :: m => R a b ∧ all2 R l m
  | _, _ => False

section all2
variable {α β : Type} {R R' : α → β → Prop}

theorem all2.len : ∀ {l : List α} {m : List β}, all2 R l m → l.length = m.length
  | [], [], _ => rfl
  | _ :: _, _ :: _, h => by simp [all2.len h.2]
  | [], _ :: _, h => h.elim
  | _ :: _, [], h => h.elim

theorem all2.mono (hr : ∀ a b, R a b → R' a b) : ∀ {l : List α} {m : List β}, all2 R l m → all2 R' l m
  | [], [], _ => trivial
  | _ :: _, _ :: _, h => ⟨hr _ _ h.1, all2.mono hr h.2⟩
  | [], _ :: _, h => h.elim
  | _ :: _, [], h => h.elim

theorem all2.get : ∀ {l : List α} {m : List β}, all2 R l m → ∀ (i : Nat) (a : α) (b : β), l[i]? = some a → m[i]? = some b → R a b
  | _ :: _, _ :: _, h, 0, _, _, ha, hb => by simp at ha hb; subst ha; subst hb; exact h.1
  | _ :: _, _ :: _, h, i + 1, a, b, ha, hb => all2.get h.2 i a b (by simpa using ha) (by simpa using hb)
  | [], [], _, _, _, _, ha, _ => by simp at ha
  | [], _ :: _, h, _, _, _, _, _ => h.elim
  | _ :: _, [], h, _, _, _, _, _ => h.elim

theorem all2.app : ∀ {l : List α} {m : List β} {l' : List α} {m' : List β}, all2 R l m → all2 R l' m' → all2 R (l ++ l') (m ++ m')
  | [], [], _, _, _, h' => h'
  | _ :: _, _ :: _, _, _, h, h' => ⟨h.1, all2.app h.2 h'⟩
  | [], _ :: _, _, _, h, _ => h.elim
  | _ :: _, [], _, _, h, _ => h.elim

theorem all2.take : ∀ {l : List α} {m : List β} (n : Nat), all2 R l m → all2 R (l.take n) (m.take n)
  | [], [], n, _ => by simp [all2]
  | _ :: _, _ :: _, 0, _ => by simp [all2]
  | _ :: _, _ :: _, n + 1, h => ⟨h.1, all2.take n h.2⟩
  | [], _ :: _, _, h => h.elim
  | _ :: _, [], _, h => h.elim

theorem all2.drop : ∀ {l : List α} {m : List β} (n : Nat), all2 R l m → all2 R (l.drop n) (m.drop n)
  | [], [], n, _ => by simp [all2]
  | _ :: _, _ :: _, 0, h => h
  | _ :: _, _ :: _, n + 1, h => all2.drop n h.2
  | [], _ :: _, _, h => h.elim
  | _ :: _, [], _, h => h.elim

theorem all2.split : ∀ {l l' : List α} {m : List β}, all2 R (l ++ l') m → ∃ c d, m = c ++ d ∧ all2 R l c ∧ all2 R l' d
  | [], _, m, h => ⟨[], m, rfl, trivial, h⟩
  | _ :: _, _, [], h => h.elim
  | _ :: l, l', b :: m, h => let ⟨c, d, hm, hc, hd⟩ := all2.split (l := l) (l' := l') h.2; ⟨b :: c, d, by rw [hm]; rfl, ⟨h.1, hc⟩, hd⟩
end all2

/-- A row of data that lies cell behind cell. -/
def rows {α : Type} (R : α → List Value → Prop) : List α → List Value → Prop
  | [], xs => xs = []
  | x :: l, xs => ∃ c r, xs = c ++ r ∧ R x c ∧ rows R l r

section rows
variable {α : Type} {R R' : α → List Value → Prop}

theorem rows.mono (hr : ∀ a b, R a b → R' a b) : ∀ {l : List α} {xs : List Value}, rows R l xs → rows R' l xs
  | [], _, h => h
  | _ :: _, _, ⟨c, r, h, hc, hl⟩ => ⟨c, r, h, hr _ _ hc, rows.mono hr hl⟩

theorem rows.app : ∀ {l m : List α} {xs ys : List Value}, rows R l xs → rows R m ys → rows R (l ++ m) (xs ++ ys)
  | [], _, _, _, h, h' => by cases h; exact h'
  | _ :: _, _, _, _, ⟨c, r, h, hc, hl⟩, h' => ⟨c, r ++ _, by rw [h, List.append_assoc], hc, rows.app hl h'⟩

theorem rows.len {n : Nat} (hn : ∀ x c, R x c → c.length = n) : ∀ {l : List α} {xs : List Value}, rows R l xs → xs.length = l.length * n
  | [], _, h => by cases h; simp
  | _ :: l, _, ⟨c, r, h, hc, hl⟩ => by rw [h, List.length_append, hn _ _ hc, rows.len hn hl, List.length_cons, Nat.add_mul, Nat.one_mul, Nat.add_comm]

theorem rows.drop {n : Nat} (hn : ∀ x c, R x c → c.length = n) : ∀ {l : List α} {xs : List Value} (k : Nat), rows R l xs → rows R (l.drop k) (xs.drop (k * n))
  | [], _, k, h => by cases h; simp [rows]
  | _ :: _, _, 0, h => by simpa using h
  | _ :: l, _, k + 1, ⟨c, r, h, hc, hl⟩ => by
    have := rows.drop hn k hl
    rw [h, List.drop_succ_cons]
    have e : (k + 1) * n = c.length + k * n := by rw [hn _ _ hc, Nat.add_mul, Nat.one_mul, Nat.add_comm]
    rw [e, List.drop_append, List.drop_eq_nil_of_le (by omega : c.length ≤ c.length + k * n), List.nil_append, Nat.add_sub_cancel_left]
    exact this

theorem rows.take {n : Nat} (hn : ∀ x c, R x c → c.length = n) : ∀ {l : List α} {xs : List Value} (k : Nat), rows R l xs → rows R (l.take k) (xs.take (k * n))
  | [], _, k, h => by cases h; simp [rows]
  | _ :: _, _, 0, h => by simp [rows]
  | _ :: l, _, k + 1, ⟨c, r, h, hc, hl⟩ => by
    have := rows.take hn k hl
    rw [h, List.take_succ_cons]
    have e : (k + 1) * n = c.length + k * n := by rw [hn _ _ hc, Nat.add_mul, Nat.one_mul, Nat.add_comm]
    refine ⟨c, r.take (k * n), ?_, hc, this⟩
    rw [e, List.take_append, List.take_of_length_le (by omega : c.length ≤ c.length + k * n), Nat.add_sub_cancel_left]

theorem rows.get {n : Nat} (hn : ∀ x c, R x c → c.length = n) {l : List α} {xs : List Value} (h : rows R l xs) (i : Nat) (x : α) (hx : l[i]? = some x) :
    ∃ c, R x c ∧ ∀ j v, c[j]? = some v → xs[i * n + j]? = some v := by
  have h1 := rows.drop hn i h
  have hlt : i < l.length := by
    rcases Nat.lt_or_ge i l.length with h | h
    · exact h
    · rw [List.getElem?_eq_none h] at hx; cases hx
  have e : l.drop i = x :: l.drop (i + 1) := by
    rw [List.drop_eq_getElem_cons hlt]
    have : l[i] = x := by simpa [List.getElem?_eq_getElem hlt] using hx
    rw [this]
  rw [e] at h1
  obtain ⟨c, r, hc, hR, _⟩ := h1
  refine ⟨c, hR, fun j v hj => ?_⟩
  have : (xs.drop (i * n))[j]? = some v := by
    rw [hc, List.getElem?_append]
    have : j < c.length := by
      rcases Nat.lt_or_ge j c.length with h | h
      · exact h
      · rw [List.getElem?_eq_none h] at hj; cases hj
    rw [if_pos this]; exact hj
  simpa [List.getElem?_drop] using this

theorem rows.replicate {x : α} {c : List Value} (h : R x c) : ∀ n, rows R (List.replicate n x) (List.replicate n c).flatten
  | 0 => by simp [rows]
  | n + 1 => ⟨c, _, by simp [List.replicate_succ], h, rows.replicate h n⟩

theorem rows.set {n : Nat} (hn : ∀ x c, R x c → c.length = n) {x : α} {c : List Value} (hx : R x c) : ∀ {l : List α} {xs : List Value} (k : Nat), k < l.length → rows R l xs →
    rows R (l.set k x) (xs.take (k * n) ++ c ++ xs.drop (k * n + n))
  | [], _, _, hk, _ => by simp at hk
  | _ :: l, _, 0, _, ⟨d, r, h, hd, hl⟩ => by
    refine ⟨c, r, ?_, hx, hl⟩
    have := hn _ _ hd
    rw [h]
    simp [this]
  | _ :: l, _, k + 1, hk, ⟨d, r, h, hd, hl⟩ => by
    have h1 := rows.set hn hx k (by simpa using hk) hl
    have := hn _ _ hd
    refine ⟨d, _, ?_, hd, h1⟩
    have e : (k + 1) * n = d.length + k * n := by rw [this, Nat.add_mul, Nat.one_mul, Nat.add_comm]
    have e2 : d.length + k * n + n - d.length = k * n + n := by omega
    rw [h, e, List.take_append, List.drop_append, e2, List.drop_eq_nil_of_le (by omega : d.length ≤ d.length + k * n + n), List.nil_append,
      List.take_of_length_le (by omega : d.length ≤ d.length + k * n), Nat.add_sub_cancel_left]
    simp [List.append_assoc]
end rows

/-- A list behind a slice value, in memory that none of F's blocks is. -/
def sliceRel {α : Type} (R : α → List Value → Prop) (w : World) (F : Nat → Prop) (l : List α) (v : Value) : Prop :=
  ((∃ q, v = .slice q 0 0) ∧ l = []) ∨
  ∃ b off cap xs, v = .slice (some ⟨b, off, none⟩) l.length cap ∧ l.length ≤ cap ∧ rows R l xs ∧
    (∀ j c, xs[j]? = some c → w.cell? ⟨b, off + j, none⟩ = some c) ∧ (xs = [] ∨ ¬ F b)

def Ty.cells (w : World) (F : Nat → Prop) : (t : Ty) → t.den → List Value → Prop
  | .int k, (n : Int), cs => cs = [.int k n]
  | .bool, (b : Bool), cs => cs = [.bool b]
  | .str, (s : ByteArray), cs => cs = [.string s]
  | .un, _, cs => cs = []
  | .sl t, (l : List t.den), cs => ∃ v, cs = [v] ∧ sliceRel (t.cells w F) w F l v
  | .pr a b, x, cs => ∃ c d, cs = c ++ d ∧ a.cells w F x.1 c ∧ b.cells w F x.2 d

theorem Ty.cells_len {w : World} {F : Nat → Prop} : ∀ (t : Ty) (x : t.den) (cs : List Value), t.cells w F x cs → cs.length = t.nc
  | .int _, _, _, h => by cases h; rfl
  | .bool, _, _, h => by cases h; rfl
  | .str, _, _, h => by cases h; rfl
  | .un, _, _, h => by cases h; rfl
  | .sl _, _, _, ⟨_, h, _⟩ => by cases h; rfl
  | .pr a b, _, _, ⟨c, d, h, hc, hd⟩ => by rw [h, List.length_append, a.cells_len _ _ hc, b.cells_len _ _ hd]; rfl

/-- What a change of the world leaves: memory outside F. -/
structure Keeps (w w' : World) (F F' : Nat → Prop) : Prop where
  mem : ∀ b, ¬ F b → b < w.heap.size → w'.heap[b]? = w.heap[b]?
  less : ∀ b, b < w.heap.size → F' b → F b

theorem Keeps.refl (w : World) (F : Nat → Prop) : Keeps w w F F := ⟨fun _ _ _ => rfl, fun _ _ h => h⟩

theorem Keeps.cell {w w' : World} {F F' : Nat → Prop} (h : Keeps w w' F F') {a : Addr} {c : Value} (hF : ¬ F a.block) (hc : w.cell? a = some c) : w'.cell? a = some c := by
  rw [World.cell?_of_block (h.mem _ hF (World.block_lt_of_cell? w a hc)), hc]

theorem sliceRel.keep {α : Type} {R R' : α → List Value → Prop} {w w' : World} {F F' : Nat → Prop} (k : Keeps w w' F F') (hr : ∀ x c, R x c → R' x c) {l : List α} {v : Value}
    (h : sliceRel R w F l v) : sliceRel R' w' F' l v := by
  rcases h with h | ⟨b, off, cap, xs, hv, hl, hrow, hcell, hF⟩
  · exact .inl h
  · refine .inr ⟨b, off, cap, xs, hv, hl, rows.mono hr hrow, ?_, ?_⟩
    · intro j c hj
      rcases hF with rfl | hF
      · simp at hj
      · exact k.cell (a := ⟨b, off + j, none⟩) hF (hcell j c hj)
    · rcases hF with rfl | hF
      · exact .inl rfl
      · cases xs with
        | nil => exact .inl rfl
        | cons c r =>
          refine .inr fun hF' => hF (k.less b ?_ hF')
          exact World.block_lt_of_cell? w _ (hcell 0 c rfl)

theorem Ty.cells_keep {w w' : World} {F F' : Nat → Prop} (k : Keeps w w' F F') : ∀ (t : Ty) (x : t.den) (cs : List Value), t.cells w F x cs → t.cells w' F' x cs
  | .int _, _, _, h => h
  | .bool, _, _, h => h
  | .str, _, _, h => h
  | .un, _, _, h => h
  | .sl t, _, _, ⟨v, h, hs⟩ => ⟨v, h, hs.keep k (t.cells_keep k)⟩
  | .pr a b, _, _, ⟨c, d, h, hc, hd⟩ => ⟨c, d, h, a.cells_keep k _ _ hc, b.cells_keep k _ _ hd⟩

def blk : Value → Option Nat
  | .slice (some a) _ _ => some a.block
  | .pointer (some a) => some a.block
  | .map (some r) => some r
  | _ => none

/-- Is a value the handle of an object: of a list, a map, a function, a value behind an interface? -/
def isHdl : Value → Bool
  | .slice _ _ _ | .map _ | .func _ _ _ | .iface _ _ => true
  | _ => false

def forb (E : Nat → Prop) (hd : Nat → Value) (objs : List (Nat × Ob)) (b : Nat) : Prop := E b ∨ ∃ p ∈ objs, blk (hd p.1) = some b

def SVRel (w : World) (F : Nat → Prop) (hd : Nat → Value) : SV → Value → Prop
  | .at v, x => x = v
  | .fz t l, x => sliceRel (t.cells w F) w F l x
  | .own i, x => x = hd i ∧ isHdl x = true
  | .vw i n off len, x => (hd i = .slice none 0 0 ∧ x = .slice none 0 0 ∧ off = 0 ∧ len = 0) ∨
      ∃ b o L C cap, hd i = .slice (some ⟨b, 0, none⟩) L C ∧ x = .slice (some ⟨b, o, none⟩) len cap ∧ len ≤ cap ∧ off + len ≤ L ∧ (o = off * n ∨ len = 0) ∧ (off = 0 → cap = C ∧ o = 0)
  | .ptr i off, x => ∃ b, hd i = .pointer (some ⟨b, 0, none⟩) ∧ x = .pointer (some ⟨b, off, none⟩)
  | .ep i n a j, x => ∃ b L C, hd i = .slice (some ⟨b, 0, none⟩) L C ∧ x = .pointer (some ⟨b, a * n + j, none⟩)
  | .bs i off n _, x => ∃ b, hd i = .pointer (some ⟨b, 0, none⟩) ∧ x = .slice (some ⟨b, off, none⟩) n n
  | .es i n a j m _, x => ∃ b L C, hd i = .slice (some ⟨b, 0, none⟩) L C ∧ x = .slice (some ⟨b, a * n + j, none⟩) m m
  | .fp t d j, x => ∃ b o cs, x = .pointer (some ⟨b, o + j, none⟩) ∧ t.cells w F d cs ∧ (∀ i c, cs[i]? = some c → w.cell? ⟨b, o + i, none⟩ = some c) ∧ (cs = [] ∨ ¬ F b)
  | .dead, _ => True

def CvRel (w : World) (F : Nat → Prop) (hd : Nat → Value) : Cv → Value → Prop
  | .one v, x => SVRel w F hd v x
  | .agg l, x => ∃ cs, x = .agg cs ∧ all2 (SVRel w F hd) l cs.toList

def SSRel (w : World) (F : Nat → Prop) (hd : Nat → Value) : SS → Value → Prop
  | .val c, x => CvRel w F hd c x
  | .tup l, x => ∃ vs, x = .tuple vs ∧ all2 (CvRel w F hd) l vs.toList

/-- A value of a type, by its cells. -/
def valRel (w : World) (F : Nat → Prop) (agg : Bool) (t : Ty) (x : t.den) (v : Value) : Prop :=
  match agg with
  | true => ∃ cs, v = .agg cs ∧ t.cells w F x cs.toList
  | false => t.cells w F x [v]

def entRel (w : World) (F : Nat → Prop) (ka va : Bool) (k v : Ty) (e : Nat × (k.den × v.den)) (m : MapEntry) : Prop :=
  m.born = e.1 ∧ valRel w F ka k e.2.1 m.key ∧ valRel w F va v e.2.2 m.val

def ObRel (w : World) (F : Nat → Prop) (hd : Nat → Value) (v : Value) : Ob → Prop
  | .box cells => ∃ b cur e, v = .pointer (some ⟨b, 0, none⟩) ∧ w.heap[b]? = some (.cells cur e (0, 0)) ∧ all2 (SVRel w F hd) cells cur.toList
  | .arr e t l => ∃ xs, w.ownsRow 0 e t.nc v l.length xs ∧ rows (t.cells w F) l xs
  | .clo g cells => ∃ cs, v = .func (.func g) #[] cs ∧ all2 (SVRel w F hd) cells cs.toList
  | .ifc t c => ∃ x, v = .iface t x ∧ SVRel w F hd c x
  | .map _ ka va k vt l c nl => (nl = true ∧ v = .map none ∧ l = [] ∧ c = 0) ∨
      ∃ r es, v = .map (some r) ∧ w.heap[r]? = some (.map es c) ∧ all2 (entRel w F ka va k vt) l es.toList ∧ (∀ m ∈ es.toList, m.born < c) ∧ (es.toList.map (·.born)).Nodup
  | .iter m s seen => ∃ b, v = .pointer (some ⟨b, 0, none⟩) ∧ ((hd m = .map none ∧ w.heap[b]? = some (.mapIter none 0 #[] 0)) ∨
      ∃ r, hd m = .map (some r) ∧ w.heap[b]? = some (.mapIter (some r) s seen.toArray s))
  | .gone => ∀ b, blk v = some b → b < w.heap.size

structure Ctx where
  P : Program
  w0 : World
  E : Nat → Prop
  W : Nat → Prop
  small : ∀ b, E b → b < w0.heap.size ∧ ¬ W b
  hd0 : Nat → Value

abbrev Ctx.F (C : Ctx) (hd : Nat → Value) (S : St) : Nat → Prop := forb C.E hd S.objs

/-- Outside what may be written the world is as it was when the call began. -/
structure Still (C : Ctx) (w : World) : Prop where
  os : w.os = C.w0.os
  tape : w.tape = C.w0.tape
  output : w.output = C.w0.output
  size : C.w0.heap.size ≤ w.heap.size
  block : ∀ b, b < C.w0.heap.size → ¬ C.W b → w.heap[b]? = C.w0.heap[b]?

structure Inv (C : Ctx) (hd : Nat → Value) (S : St) (tmps : Array Value) (w : World) : Prop where
  slots : all2 (SSRel w (C.F hd S) hd) S.slots tmps.toList
  objs : ∀ p ∈ S.objs, ObRel w (C.F hd S) hd (hd p.1) p.2
  nodup : (S.objs.map (·.1)).Nodup
  apart : ∀ p ∈ S.objs, ∀ q ∈ S.objs, p.1 ≠ q.1 → ∀ b, blk (hd p.1) = some b → blk (hd q.1) = some b → False
  place : ∀ p ∈ S.objs, ∀ b, blk (hd p.1) = some b → C.w0.heap.size ≤ b ∨ C.W b
  still : Still C w
  pins : ∀ i ∈ S.pins, hd i = C.hd0 i

theorem SVRel.keep {w w' : World} {F F' : Nat → Prop} {hd hd' : Nat → Value} (k : Keeps w w' F F') {v : SV} {x : Value} (hh : ∀ i, v.ref = some i → hd' i = hd i)
    (h : SVRel w F hd v x) : SVRel w' F' hd' v x := by
  cases v with
  | «at» v => exact h
  | fz t l => exact sliceRel.keep k (t.cells_keep k) h
  | own i => simp only [SVRel] at h ⊢; rw [hh i rfl]; exact h
  | vw i n off len => simp only [SVRel] at h ⊢; rw [hh i rfl]; exact h
  | ptr i off => simp only [SVRel] at h ⊢; rw [hh i rfl]; exact h
  | ep i n a j => simp only [SVRel] at h ⊢; rw [hh i rfl]; exact h
  | bs i off n t => simp only [SVRel] at h ⊢; rw [hh i rfl]; exact h
  | es i n a j m t => simp only [SVRel] at h ⊢; rw [hh i rfl]; exact h
  | fp t d j =>
    obtain ⟨b, o, cs, hx, hc, hm, hF⟩ := h
    refine ⟨b, o, cs, hx, t.cells_keep k _ _ hc, ?_, ?_⟩
    · intro i c hi
      rcases hF with rfl | hF
      · simp at hi
      · exact k.cell (a := ⟨b, o + i, none⟩) hF (hm i c hi)
    · rcases hF with rfl | hF
      · exact .inl rfl
      · cases cs with
        | nil => exact .inl rfl
        | cons c r => exact .inr fun hF' => hF (k.less b (World.block_lt_of_cell? w _ (hm 0 c rfl)) hF')
  | dead => trivial

theorem beq_ne {j i : Nat} (h : Nat.beq j i = false) : j ≠ i := by intro e; subst e; simp at h

theorem SV.killed_ref (i : Nat) (v : SV) : (v.killed i).ref ≠ some i ∧ (v.killed i = .dead ∨ v.killed i = v) := by
  cases v with
  | «at» v => exact ⟨by simp [SV.killed, SV.ref], .inr rfl⟩
  | fz t l => exact ⟨by simp [SV.killed, SV.ref], .inr rfl⟩
  | fp t d j => exact ⟨by simp [SV.killed, SV.ref], .inr rfl⟩
  | dead => exact ⟨by simp [SV.killed, SV.ref], .inr rfl⟩
  | own j =>
    simp only [SV.killed]
    cases h : Nat.beq j i with
    | true => exact ⟨by simp [SV.ref], .inl rfl⟩
    | false => exact ⟨by simpa [SV.ref] using beq_ne h, .inr rfl⟩
  | vw j n o l =>
    simp only [SV.killed]
    cases h : Nat.beq j i with
    | true => exact ⟨by simp [SV.ref], .inl rfl⟩
    | false => exact ⟨by simpa [SV.ref] using beq_ne h, .inr rfl⟩
  | ptr j o =>
    simp only [SV.killed]
    cases h : Nat.beq j i with
    | true => exact ⟨by simp [SV.ref], .inl rfl⟩
    | false => exact ⟨by simpa [SV.ref] using beq_ne h, .inr rfl⟩
  | ep j n a b =>
    simp only [SV.killed]
    cases h : Nat.beq j i with
    | true => exact ⟨by simp [SV.ref], .inl rfl⟩
    | false => exact ⟨by simpa [SV.ref] using beq_ne h, .inr rfl⟩
  | bs j o n t =>
    simp only [SV.killed]
    cases h : Nat.beq j i with
    | true => exact ⟨by simp [SV.ref], .inl rfl⟩
    | false => exact ⟨by simpa [SV.ref] using beq_ne h, .inr rfl⟩
  | es j n a b m t =>
    simp only [SV.killed]
    cases h : Nat.beq j i with
    | true => exact ⟨by simp [SV.ref], .inl rfl⟩
    | false => exact ⟨by simpa [SV.ref] using beq_ne h, .inr rfl⟩

section kill
variable {w w' : World} {F F' : Nat → Prop} {hd hd' : Nat → Value}

theorem SVRel.kill (k : Keeps w w' F F') (i : Nat) (hh : ∀ j, j ≠ i → hd' j = hd j) {v : SV} {x : Value} (h : SVRel w F hd v x) : SVRel w' F' hd' (v.killed i) x := by
  obtain ⟨h1, h2⟩ := SV.killed_ref i v
  rcases h2 with h2 | h2
  · rw [h2]; trivial
  · rw [h2]
    refine h.keep k fun j hj => hh j fun e => h1 ?_
    rw [h2, hj, e]

theorem all2_killCells (k : Keeps w w' F F') (i : Nat) (hh : ∀ j, j ≠ i → hd' j = hd j) : ∀ {l : List SV} {m : List Value}, all2 (SVRel w F hd) l m → all2 (SVRel w' F' hd') (killCells i l) m
  | [], [], _ => trivial
  | _ :: _, _ :: _, h => ⟨SVRel.kill k i hh h.1, all2_killCells k i hh h.2⟩
  | [], _ :: _, h => h.elim
  | _ :: _, [], h => h.elim

theorem CvRel.kill (k : Keeps w w' F F') (i : Nat) (hh : ∀ j, j ≠ i → hd' j = hd j) {v : Cv} {x : Value} (h : CvRel w F hd v x) : CvRel w' F' hd' (v.killed i) x := by
  cases v with
  | one v => exact SVRel.kill k i hh h
  | agg l => obtain ⟨cs, hx, hl⟩ := h; exact ⟨cs, hx, all2_killCells k i hh hl⟩

theorem all2_killCvs (k : Keeps w w' F F') (i : Nat) (hh : ∀ j, j ≠ i → hd' j = hd j) : ∀ {l : List Cv} {m : List Value}, all2 (CvRel w F hd) l m → all2 (CvRel w' F' hd') (killCvs i l) m
  | [], [], _ => trivial
  | _ :: _, _ :: _, h => ⟨CvRel.kill k i hh h.1, all2_killCvs k i hh h.2⟩
  | [], _ :: _, h => h.elim
  | _ :: _, [], h => h.elim

theorem SSRel.kill (k : Keeps w w' F F') (i : Nat) (hh : ∀ j, j ≠ i → hd' j = hd j) {v : SS} {x : Value} (h : SSRel w F hd v x) : SSRel w' F' hd' (v.killed i) x := by
  cases v with
  | val v => exact CvRel.kill k i hh h
  | tup l => obtain ⟨cs, hx, hl⟩ := h; exact ⟨cs, hx, all2_killCvs k i hh hl⟩

theorem all2_killSlots (k : Keeps w w' F F') (i : Nat) (hh : ∀ j, j ≠ i → hd' j = hd j) : ∀ {l : List SS} {m : List Value}, all2 (SSRel w F hd) l m → all2 (SSRel w' F' hd') (killSlots i l) m
  | [], [], _ => trivial
  | _ :: _, _ :: _, h => ⟨SSRel.kill k i hh h.1, all2_killSlots k i hh h.2⟩
  | [], _ :: _, h => h.elim
  | _ :: _, [], h => h.elim
end kill

theorem mem_killPins {i j : Nat} : ∀ {l : List Nat}, j ∈ killPins i l → j ≠ i ∧ j ∈ l
  | k :: l, h => by
    simp only [killPins] at h
    cases hb : Nat.beq k i with
    | true => rw [hb] at h; obtain ⟨h1, h2⟩ := mem_killPins (l := l) h; exact ⟨h1, .tail _ h2⟩
    | false =>
      rw [hb] at h
      rcases List.mem_cons.1 h with rfl | h
      · exact ⟨fun e => by subst e; simp at hb, .head _⟩
      · obtain ⟨h1, h2⟩ := mem_killPins (l := l) h; exact ⟨h1, .tail _ h2⟩

theorem mem_killObjs {i : Nat} : ∀ {l : List (Nat × Ob)} {p : Nat × Ob}, p ∈ killObjs i l → p.1 ≠ i ∧ ∃ o, (p.1, o) ∈ l ∧ p.2 = o.killed i
  | [], _, h => by simp [killObjs] at h
  | (j, o) :: l, p, h => by
    simp only [killObjs] at h
    cases hb : Nat.beq j i with
    | true => simp only [hb, cond_true] at h; obtain ⟨h1, o', h2, h3⟩ := mem_killObjs h; exact ⟨h1, o', .tail _ h2, h3⟩
    | false =>
      simp only [hb, cond_false, List.mem_cons] at h
      rcases h with rfl | h
      · exact ⟨by intro e; simp only at e; simp [e] at hb, o, .head _, rfl⟩
      · obtain ⟨h1, o', h2, h3⟩ := mem_killObjs h; exact ⟨h1, o', .tail _ h2, h3⟩

theorem ids_killObjs (i : Nat) : ∀ (l : List (Nat × Ob)), ((killObjs i l).map (·.1)).Sublist (l.map (·.1))
  | [] => by simp [killObjs]
  | (j, o) :: l => by
    simp only [killObjs]
    cases Nat.beq j i with
    | true => exact (ids_killObjs i l).cons _
    | false => exact (ids_killObjs i l).cons_cons _

theorem look_mem : ∀ {l : List (Nat × Ob)} {i : Nat} {o : Ob}, look l i = some o → (i, o) ∈ l
  | [], _, _, h => by simp [look] at h
  | (j, p) :: l, i, o, h => by
    simp only [look] at h
    cases hb : Nat.beq j i with
    | true => simp only [hb, cond_true, Option.some.injEq] at h; subst h; have := Nat.eq_of_beq_eq_true hb; subst this; exact .head _
    | false => simp only [hb, cond_false] at h; exact .tail _ (look_mem h)

theorem mem_setOb {i : Nat} {o : Ob} : ∀ {l : List (Nat × Ob)} {p : Nat × Ob}, (l.map (·.1)).Nodup → p ∈ setOb i o l → (p.1 = i ∧ p.2 = o) ∨ (p ∈ l ∧ p.1 ≠ i)
  | [], _, _, h => by simp [setOb] at h
  | (j, q) :: l, p, hn, h => by
    simp only [setOb] at h
    simp only [List.map_cons, List.nodup_cons] at hn
    cases hb : Nat.beq j i with
    | true =>
      have e := Nat.eq_of_beq_eq_true hb
      simp only [hb, cond_true, List.mem_cons] at h
      rcases h with rfl | h
      · exact .inl ⟨e, rfl⟩
      · exact .inr ⟨.tail _ h, fun e' => hn.1 (List.mem_map.2 ⟨p, h, by simp [e', e]⟩)⟩
    | false =>
      simp only [hb, cond_false, List.mem_cons] at h
      rcases h with rfl | h
      · exact .inr ⟨.head _, by intro e; simp only at e; simp [e] at hb⟩
      · rcases mem_setOb hn.2 h with h | ⟨h, h'⟩
        · exact .inl h
        · exact .inr ⟨.tail _ h, h'⟩

def Sub (lk : Lk) (S : St) : Prop := ∀ (i : Nat) (o : Ob), lk i = some o → look S.objs i = some o

theorem Sub.of (S : St) (ids : List Nat) : Sub (lkOf S.objs ids) S := by
  intro i o h
  unfold lkOf at h
  cases hm : memN i ids with
  | true => rw [hm] at h; exact h
  | false => rw [hm] at h; cases h

theorem Sub.all (S : St) : Sub (look S.objs) S := fun _ _ h => h

theorem ids_setOb (i : Nat) (o : Ob) : ∀ (l : List (Nat × Ob)), (setOb i o l).map (·.1) = l.map (·.1)
  | [] => rfl
  | (j, p) :: l => by
    simp only [setOb]
    cases hb : Nat.beq j i with
    | true => simp
    | false => simp [ids_setOb i o l]

theorem forb_ids {E : Nat → Prop} {hd : Nat → Value} {l m : List (Nat × Ob)} (h : l.map (·.1) = m.map (·.1)) (b : Nat) : forb E hd l b ↔ forb E hd m b := by
  have e : ∀ (l : List (Nat × Ob)), (∃ p ∈ l, blk (hd p.1) = some b) ↔ ∃ i ∈ l.map (·.1), blk (hd i) = some b := by
    intro l; simp
  unfold forb
  rw [e, e, h]


theorem owns_keep {w w' : World} {e : TypeId} {n k : Nat} {v : Value} {xs : List Value} (h : w.ownsRow 0 e n v k xs) (hb : ∀ b, blk v = some b → w'.heap[b]? = w.heap[b]?) : w'.ownsRow 0 e n v k xs := by
  refine ⟨h.1, ?_⟩
  rcases h.2 with hn | ⟨g, cap, cur, rfl, hb0, hg, rest⟩
  · exact .inl hn
  · exact .inr ⟨g, cap, cur, rfl, hb0, by rw [hb g rfl]; exact hg, rest⟩

theorem gone_lt {w w' : World} {b : Nat} (h : w'.heap[b]? = w.heap[b]?) (hb : b < w.heap.size) : b < w'.heap.size := by
  rw [Array.getElem?_eq_getElem hb] at h
  exact (Array.getElem?_eq_some_iff.1 h).1

section obs
variable {w w' : World} {F F' : Nat → Prop} {hd hd' : Nat → Value}

theorem valRel.keep (k : Keeps w w' F F') {agg : Bool} {t : Ty} {x : t.den} {v : Value} (h : valRel w F agg t x v) : valRel w' F' agg t x v := by
  cases agg with
  | true => obtain ⟨cs, e, h⟩ := h; exact ⟨cs, e, t.cells_keep k _ _ h⟩
  | false => exact t.cells_keep k _ _ h

theorem entRel.keep (k : Keeps w w' F F') {ka va : Bool} {kt vt : Ty} {e : Nat × (kt.den × vt.den)} {m : MapEntry} (h : entRel w F ka va kt vt e m) : entRel w' F' ka va kt vt e m :=
  ⟨h.1, valRel.keep k h.2.1, valRel.keep k h.2.2⟩

theorem map_keep (k : Keeps w w' F F') {mt : TypeId} {ka va : Bool} {kt vt : Ty} {l : List (Nat × (kt.den × vt.den))} {c : Nat} {nl : Bool} {v : Value} (hb : ∀ b, blk v = some b → w'.heap[b]? = w.heap[b]?) (h : ObRel w F hd v (.map mt ka va kt vt l c nl)) :
    ObRel w' F' hd' v (.map mt ka va kt vt l c nl) := by
  rcases h with h | ⟨r, es, rfl, hg, hl, hc⟩
  · exact .inl h
  · exact .inr ⟨r, es, rfl, by rw [hb r rfl]; exact hg, all2.mono (fun _ _ h => entRel.keep k h) hl, hc⟩

theorem ObRel.kill (k : Keeps w w' F F') (i : Nat) (hh : ∀ j, j ≠ i → hd' j = hd j) {v : Value} {o : Ob} (hb : ∀ b, blk v = some b → w'.heap[b]? = w.heap[b]?) (h : ObRel w F hd v o) : ObRel w' F' hd' v (o.killed i) := by
  cases o with
  | box cells => obtain ⟨b, cur, e, rfl, hg, hl⟩ := h; exact ⟨b, cur, e, rfl, by rw [hb b rfl]; exact hg, all2_killCells k i hh hl⟩
  | arr e t l => obtain ⟨xs, ho, hr⟩ := h; exact ⟨xs, owns_keep ho hb, rows.mono (t.cells_keep k) hr⟩
  | clo g l => obtain ⟨cs, e, hl⟩ := h; exact ⟨cs, e, all2_killCells k i hh hl⟩
  | ifc t c => obtain ⟨x, e, hl⟩ := h; exact ⟨x, e, SVRel.kill k i hh hl⟩
  | map mt ka va kt vt l c nl => exact map_keep k hb h
  | iter m s seen =>
    obtain ⟨b, rfl, h⟩ := h
    simp only [Ob.killed]
    cases hm : Nat.beq m i with
    | true =>
      intro b' hb'
      simp only [blk, Option.some.injEq] at hb'
      subst hb'
      have e := hb b rfl
      rcases h with ⟨_, hg⟩ | ⟨_, _, hg⟩ <;> (rw [← e] at hg; exact (Array.getElem?_eq_some_iff.1 hg).1)
    | false =>
      have e := hh m (beq_ne hm)
      exact ⟨b, rfl, by rw [e, hb b rfl]; exact h⟩
  | gone =>
    intro b hb'
    exact gone_lt (hb b hb') (h b hb')

theorem ObRel.keep (k : Keeps w w' F F') (hh : hd' = hd) {v : Value} {o : Ob} (hb : ∀ b, blk v = some b → w'.heap[b]? = w.heap[b]?) (h : ObRel w F hd v o) : ObRel w' F' hd' v o := by
  subst hh
  cases o with
  | box cells => obtain ⟨b, cur, e, rfl, hg, hl⟩ := h; exact ⟨b, cur, e, rfl, by rw [hb b rfl]; exact hg, all2.mono (fun a x hx => SVRel.keep k (fun _ _ => rfl) hx) hl⟩
  | arr e t l => obtain ⟨xs, ho, hr⟩ := h; exact ⟨xs, owns_keep ho hb, rows.mono (t.cells_keep k) hr⟩
  | clo g l => obtain ⟨cs, e, hl⟩ := h; exact ⟨cs, e, all2.mono (fun a x hx => SVRel.keep k (fun _ _ => rfl) hx) hl⟩
  | ifc t c => obtain ⟨x, e, hl⟩ := h; exact ⟨x, e, SVRel.keep k (fun _ _ => rfl) hl⟩
  | map mt ka va kt vt l c nl => exact map_keep k hb h
  | iter m s seen =>
    obtain ⟨b, rfl, h⟩ := h
    exact ⟨b, rfl, by rw [hb b rfl]; exact h⟩
  | gone =>
    intro b hb'
    exact gone_lt (hb b hb') (h b hb')
end obs

theorem ObRel.lt {w : World} {F : Nat → Prop} {hd : Nat → Value} {v : Value} {o : Ob} (h : ObRel w F hd v o) : ∀ b, blk v = some b → b < w.heap.size := by
  intro b hb
  cases o with
  | box cells => obtain ⟨b', cur, e, rfl, hg, _⟩ := h; simp [blk] at hb; subst hb; exact (Array.getElem?_eq_some_iff.1 hg).1
  | arr e t l =>
    obtain ⟨xs, ho, _⟩ := h
    rcases ho.2 with ⟨rfl, _⟩ | ⟨g, cap, cur, rfl, _, hg, _⟩
    · simp [blk] at hb
    · simp [blk] at hb; subst hb; exact (Array.getElem?_eq_some_iff.1 hg).1
  | clo g l => obtain ⟨cs, rfl, _⟩ := h; simp [blk] at hb
  | ifc t c => obtain ⟨x, rfl, _⟩ := h; simp [blk] at hb
  | map mt ka va kt vt l c nl =>
    rcases h with ⟨_, rfl, _⟩ | ⟨r, es, rfl, hg, _⟩
    · simp [blk] at hb
    · simp [blk] at hb; subst hb; exact (Array.getElem?_eq_some_iff.1 hg).1
  | iter m s seen =>
    obtain ⟨b', rfl, h⟩ := h
    simp [blk] at hb; subst hb
    rcases h with ⟨_, hg⟩ | ⟨_, _, hg⟩ <;> exact (Array.getElem?_eq_some_iff.1 hg).1
  | gone => exact h b hb

/-- The world goes on: nothing that the outside sees has turned, and no block has gone. -/
structure On (w w' : World) : Prop where
  os : w'.os = w.os
  tape : w'.tape = w.tape
  output : w'.output = w.output
  size : w.heap.size ≤ w'.heap.size

theorem On.refl (w : World) : On w w := ⟨rfl, rfl, rfl, Nat.le_refl _⟩
theorem On.grown {w w' : World} {r : Option Nat} (h : w.grownBy w' r) : On w w' := ⟨h.os, h.tape, h.output, h.size⟩

def upd (hd : Nat → Value) (i : Nat) (v : Value) (j : Nat) : Value := if j = i then v else hd j
theorem upd_same (hd : Nat → Value) (i : Nat) (v : Value) : upd hd i v i = v := by simp [upd]
theorem upd_ne {hd : Nat → Value} {i j : Nat} (v : Value) (h : j ≠ i) : upd hd i v j = hd j := by simp [upd, h]

/-- Does object i lie in block b? -/
def Lies (hd : Nat → Value) (S : St) (i b : Nat) : Prop := (∃ o, (i, o) ∈ S.objs) ∧ blk (hd i) = some b

section inv
variable {C : Ctx} {hd : Nat → Value} {S : St} {tmps : Array Value} {w w' : World}

theorem Inv.lies_F (i b : Nat) (h : Lies hd S i b) : C.F hd S b := by
  obtain ⟨⟨o, ho⟩, hb⟩ := h
  exact .inr ⟨(i, o), ho, hb⟩

theorem Inv.still_of (I : Inv C hd S tmps w) (i : Nat) (on : On w w') (hmem : ∀ b, b < w.heap.size → ¬ Lies hd S i b → w'.heap[b]? = w.heap[b]?) : Still C w' := by
  refine ⟨on.os.trans I.still.os, on.tape.trans I.still.tape, on.output.trans I.still.output, Nat.le_trans I.still.size on.size, fun b hb hW => ?_⟩
  rw [hmem b (Nat.lt_of_lt_of_le hb I.still.size) ?_, I.still.block b hb hW]
  rintro ⟨⟨o, ho⟩, hbk⟩
  rcases I.place _ ho b hbk with h | h
  · omega
  · exact hW h

theorem Inv.keeps (_I : Inv C hd S tmps w) (i : Nat) (hmem : ∀ b, b < w.heap.size → ¬ Lies hd S i b → w'.heap[b]? = w.heap[b]?) (F' : Nat → Prop) (hF : ∀ b, b < w.heap.size → F' b → C.F hd S b) :
    Keeps w w' (C.F hd S) F' :=
  ⟨fun b hb hlt => hmem b hlt fun hl => hb (Inv.lies_F (C := C) i b hl), hF⟩

/-- Object i is made anew: of value v, in new memory or in its own. -/
theorem Inv.renew (I : Inv C hd S tmps w) (i : Nat) (o : Ob) (v : Value) (on : On w w')
    (hblk : ∀ b, blk v = some b → w.heap.size ≤ b ∨ Lies hd S i b)
    (hmem : ∀ b, b < w.heap.size → ¬ Lies hd S i b → w'.heap[b]? = w.heap[b]?)
    (hob : ∀ F', Keeps w w' (C.F hd S) F' → ObRel w' F' (upd hd i v) v o) :
    Inv C (upd hd i v) (S.renew i o) tmps w' ∧ Keeps w w' (C.F hd S) (C.F (upd hd i v) (S.renew i o)) := by
  have hh : ∀ j, j ≠ i → upd hd i v j = hd j := fun j hj => upd_ne v hj
  have hF : ∀ b, b < w.heap.size → C.F (upd hd i v) (S.renew i o) b → C.F hd S b := by
    intro b hb h
    rcases h with h | ⟨p, hp, hpb⟩
    · exact .inl h
    · simp only [St.renew, List.mem_cons] at hp
      rcases hp with rfl | hp
      · simp only [upd_same] at hpb
        rcases hblk b hpb with h | h
        · omega
        · exact Inv.lies_F (C := C) i b h
      · obtain ⟨hne, o', ho', _⟩ := mem_killObjs hp
        rw [hh _ hne] at hpb
        exact .inr ⟨_, ho', hpb⟩
  have k := I.keeps i hmem _ hF
  have hin : ∀ p ∈ S.objs, p.1 ≠ i → ∀ b, blk (hd p.1) = some b → ¬ Lies hd S i b := by
    rintro p hp hne b hb ⟨⟨o', ho'⟩, hb'⟩
    exact I.apart p hp (i, o') ho' hne b hb hb'
  refine ⟨⟨all2_killSlots k i hh I.slots, ?_, ?_, ?_, ?_, I.still_of i on hmem, fun j hj => by obtain ⟨h1, h2⟩ := mem_killPins hj; rw [hh j h1]; exact I.pins j h2⟩, k⟩
  · intro p hp
    simp only [St.renew, List.mem_cons] at hp
    rcases hp with rfl | hp
    · simp only [upd_same]
      exact hob _ k
    · obtain ⟨hne, o', ho', he⟩ := mem_killObjs hp
      rw [he, hh _ hne]
      exact ObRel.kill k i hh (fun b hb => hmem b ((I.objs _ ho').lt b hb) (hin _ ho' hne b hb)) (I.objs _ ho')
  · simp only [St.renew, List.map_cons, List.nodup_cons]
    refine ⟨fun h => ?_, List.Sublist.nodup (ids_killObjs i S.objs) I.nodup⟩
    obtain ⟨p, hp, he⟩ := List.mem_map.1 h
    exact (mem_killObjs hp).1 he
  · intro p hp q hq hne b hpb hqb
    simp only [St.renew, List.mem_cons] at hp hq
    have one : ∀ q ∈ killObjs i S.objs, blk (upd hd i v q.1) = some b → blk v = some b → False := by
      intro q hq hqb hvb
      obtain ⟨hne, o', ho', _⟩ := mem_killObjs hq
      rw [hh _ hne] at hqb
      rcases hblk b hvb with h | h
      · have := (I.objs _ ho').lt b hqb; omega
      · exact hin _ ho' hne b hqb h
    rcases hp with rfl | hp <;> rcases hq with rfl | hq
    · exact hne rfl
    · simp only [upd_same] at hpb; exact one q hq hqb hpb
    · simp only [upd_same] at hqb; exact one p hp hpb hqb
    · obtain ⟨hp1, o1, ho1, _⟩ := mem_killObjs hp
      obtain ⟨hq1, o2, ho2, _⟩ := mem_killObjs hq
      rw [hh _ hp1] at hpb
      rw [hh _ hq1] at hqb
      exact I.apart _ ho1 _ ho2 hne b hpb hqb
  · intro p hp b hpb
    simp only [St.renew, List.mem_cons] at hp
    rcases hp with rfl | hp
    · simp only [upd_same] at hpb
      rcases hblk b hpb with h | ⟨⟨o', ho'⟩, hb'⟩
      · exact .inl (Nat.le_trans I.still.size h)
      · exact I.place _ ho' b hb'
    · obtain ⟨hp1, o1, ho1, _⟩ := mem_killObjs hp
      rw [hh _ hp1] at hpb
      exact I.place _ ho1 b hpb

/-- Object i is forgotten, and its own memory may have turned. -/
theorem Inv.dropAt (I : Inv C hd S tmps w) (i : Nat) (on : On w w') (hmem : ∀ b, b < w.heap.size → ¬ Lies hd S i b → w'.heap[b]? = w.heap[b]?) :
    Inv C hd (S.drop i) tmps w' ∧ Keeps w w' (C.F hd S) (C.F hd (S.drop i)) := by
  have hF : ∀ b, b < w.heap.size → C.F hd (S.drop i) b → C.F hd S b := by
    intro b _ h
    rcases h with h | ⟨p, hp, hpb⟩
    · exact .inl h
    · obtain ⟨_, o', ho', _⟩ := mem_killObjs hp
      exact .inr ⟨_, ho', hpb⟩
  have k := I.keeps i hmem _ hF
  refine ⟨⟨all2_killSlots k i (fun _ _ => rfl) I.slots, ?_, List.Sublist.nodup (ids_killObjs i S.objs) I.nodup, ?_, ?_, I.still_of i on hmem, fun j hj => I.pins j (mem_killPins hj).2⟩, k⟩
  · intro p hp
    obtain ⟨hne, o', ho', he⟩ := mem_killObjs hp
    rw [he]
    refine ObRel.kill k i (fun _ _ => rfl) (fun b hb => hmem b ((I.objs _ ho').lt b hb) ?_) (I.objs _ ho')
    rintro ⟨⟨o2, ho2⟩, hb'⟩
    exact I.apart _ ho' (i, o2) ho2 hne b hb hb'
  · intro p hp q hq hne b hpb hqb
    obtain ⟨_, o1, ho1, _⟩ := mem_killObjs hp
    obtain ⟨_, o2, ho2, _⟩ := mem_killObjs hq
    exact I.apart _ ho1 _ ho2 hne b hpb hqb
  · intro p hp b hpb
    obtain ⟨_, o1, ho1, _⟩ := mem_killObjs hp
    exact I.place _ ho1 b hpb

/-- Object i is forgotten. -/
theorem Inv.drop (I : Inv C hd S tmps w) (i : Nat) : Inv C hd (S.drop i) tmps w ∧ Keeps w w (C.F hd S) (C.F hd (S.drop i)) :=
  I.dropAt i (On.refl w) fun _ _ _ => rfl

/-- What object i holds turns, in place. -/
theorem Inv.set (I : Inv C hd S tmps w) (i : Nat) (o : Ob) (on : On w w')
    (hmem : ∀ b, b < w.heap.size → ¬ Lies hd S i b → w'.heap[b]? = w.heap[b]?)
    (hob : Keeps w w' (C.F hd S) (C.F hd S) → ObRel w' (C.F hd S) hd (hd i) o) :
    Inv C hd { S with objs := setOb i o S.objs } tmps w' ∧ Keeps w w' (C.F hd S) (C.F hd { S with objs := setOb i o S.objs }) := by
  have hE : C.F hd { S with objs := setOb i o S.objs } = C.F hd S := funext fun b => propext (forb_ids (ids_setOb i o S.objs) b)
  have k : Keeps w w' (C.F hd S) (C.F hd S) := I.keeps i hmem _ fun _ _ h => h
  rw [hE]
  refine ⟨⟨?_, ?_, ?_, ?_, ?_, I.still_of i on hmem, I.pins⟩, k⟩
  · rw [hE]
    refine all2.mono (fun s v h => ?_) I.slots
    have kc : ∀ c v, CvRel w (C.F hd S) hd c v → CvRel w' (C.F hd S) hd c v := by
      intro c v h
      cases c with
      | one v => exact SVRel.keep k (fun _ _ => rfl) h
      | agg l => obtain ⟨cs, hx, hl⟩ := h; exact ⟨cs, hx, all2.mono (fun a x hx => SVRel.keep k (fun _ _ => rfl) hx) hl⟩
    cases s with
    | val c => exact kc c v h
    | tup l => obtain ⟨vs, hx, hl⟩ := h; exact ⟨vs, hx, all2.mono kc hl⟩
  · intro p hp
    rw [hE]
    rcases mem_setOb I.nodup hp with ⟨h1, h2⟩ | ⟨h1, h2⟩
    · rw [h1, h2]; exact hob k
    · refine ObRel.keep k rfl (fun b hb => hmem b ((I.objs _ h1).lt b hb) ?_) (I.objs _ h1)
      rintro ⟨⟨o', ho'⟩, hb'⟩
      exact I.apart p h1 (i, o') ho' h2 b hb hb'
  · rw [ids_setOb]; exact I.nodup
  · intro p hp q hq hne b hpb hqb
    have hp' : p.1 ∈ S.objs.map (·.1) := by rw [← ids_setOb i o]; exact List.mem_map.2 ⟨p, hp, rfl⟩
    have hq' : q.1 ∈ S.objs.map (·.1) := by rw [← ids_setOb i o]; exact List.mem_map.2 ⟨q, hq, rfl⟩
    obtain ⟨p', hp', he⟩ := List.mem_map.1 hp'
    obtain ⟨q', hq', he'⟩ := List.mem_map.1 hq'
    exact I.apart p' hp' q' hq' (by rw [he, he']; exact hne) b (by rw [he]; exact hpb) (by rw [he']; exact hqb)
  · intro p hp b hpb
    have hp' : p.1 ∈ S.objs.map (·.1) := by rw [← ids_setOb i o]; exact List.mem_map.2 ⟨p, hp, rfl⟩
    obtain ⟨p', hp', he⟩ := List.mem_map.1 hp'
    exact I.place p' hp' b (by rw [he]; exact hpb)

theorem all2_put {R : SS → Value → Prop} {s : SS} {v : Value} (h : R s v) : ∀ {l : List SS} {m : List Value} (i : Nat), all2 R l m → all2 R (put l i s) (m.set i v)
  | [], [], _, _ => trivial
  | _ :: _, _ :: _, 0, hl => ⟨h, hl.2⟩
  | _ :: _, _ :: _, i + 1, hl => ⟨hl.1, all2_put h i hl.2⟩
  | [], _ :: _, _, hl => hl.elim
  | _ :: _, [], _, hl => hl.elim

theorem all2_nth {R : SS → Value → Prop} (hd : ∀ v, R .dead v) : ∀ {l : List SS} {m : List Value} (i : Nat), all2 R l m → ∀ u, R (nth l i) ((m[i]?).getD u)
  | [], [], _, _, u => by simp [nth, hd]
  | _ :: _, _ :: _, 0, hl, u => by simpa [nth] using hl.1
  | _ :: _, _ :: _, i + 1, hl, u => by simpa [nth] using all2_nth hd i hl.2 u
  | [], _ :: _, _, hl, _ => hl.elim
  | _ :: _, [], _, hl, _ => hl.elim

theorem Inv.put (I : Inv C hd S tmps w) {s : SS} {v : Value} (h : SSRel w (C.F hd S) hd s v) (i : Nat) : Inv C hd { S with slots := Sh.put S.slots i s } (tmps.setIfInBounds i v) w :=
  ⟨by rw [Array.toList_setIfInBounds]; exact all2_put h i I.slots, I.objs, I.nodup, I.apart, I.place, I.still, I.pins⟩

theorem SSRel.dead (w : World) (F : Nat → Prop) (hd : Nat → Value) (v : Value) : SSRel w F hd .dead v := trivial

theorem all2_ofCells (w : World) (F : Nat → Prop) (hd : Nat → Value) : ∀ l : List Value, all2 (SVRel w F hd) (ofCells l) l
  | [] => trivial
  | _ :: l => ⟨rfl, all2_ofCells w F hd l⟩

theorem ofVal_rel (w : World) (F : Nat → Prop) (hd : Nat → Value) (v : Value) : SSRel w F hd (ofVal v) v := by
  cases v <;> first
    | exact (rfl : _ = _)
    | exact ⟨_, rfl, all2_ofCells w F hd _⟩
    | trivial

/-- What an operand reads as is what the slot says. -/
theorem Inv.rd (I : Inv C hd S tmps w) (x : Operand) (ds : List Deferred) : SSRel w (C.F hd S) hd (Sh.rd S x) (({ tmps, defers := ds } : Act).eval x) := by
  cases x with
  | tmp t =>
    have := all2_nth (R := SSRel w (C.F hd S) hd) (SSRel.dead w _ hd) t I.slots undef
    simpa [Sh.rd, Act.eval, Array.getD_eq_getD_getElem?] using this
  | const v => exact ofVal_rel w _ hd v
  | global g => trivial
  | func f => exact (rfl : _ = _)
end inv

end Go.Sh
