/-
  Contracts of functions, states of a known shape, loops: over the shadow evaluator. No project text.
-/
import Derived.Test.YtkmbehagofjmbaaGreatShCode2
namespace Go.Sh

/-- Nothing that is a slice. -/
def Ty.flat : Ty → Bool
  | .sl _ => false
  | .pr a b => a.flat && b.flat
  | _ => true

def SV.refIn (keep : List Nat) : SV → Bool
  | .own i | .vw i _ _ _ | .ptr i _ | .ep i _ _ _ | .bs i _ _ _ | .es i _ _ _ _ _ => keep.contains i
  | _ => false

/-- The list behind a value that is none of those to be kept. -/
def listK (lk : Lk) (keep : List Nat) (t : Ty) (v : SV) : Option (List t.den) := bif v.refIn keep then none else listOf lk t v

/-- A datum out of cells; owned lists are taken as they stand. -/
def decS (lk : Lk) (keep : List Nat) : (t : Ty) → List SV → Option (t.den × List SV)
  | .sl t, v :: r => (listK lk keep t v).map fun l => (l, r)
  | .pr a b, cs => (decS lk keep a cs).bind fun p => (decS lk keep b p.2).map fun q => ((p.1, q.1), q.2)
  | t, cs => dec t cs

def decSAll (lk : Lk) (keep : List Nat) (t : Ty) (cs : List SV) : Option t.den :=
  match decS lk keep t cs with
  | some (x, []) => some x
  | _ => none

/-- A part of an aggregate, or of a variable. -/
inductive CP where
  | dat (t : Ty)
  | own (i : Nat)
  | ptr (i : Nat)
  | fn (f : FuncId)
  deriving DecidableEq

inductive Pat where
  | dead
  | one (t : Ty)
  | agg (t : Ty)
  | own (i : Nat)
  | ptr (i : Nat)
  | mix (l : List CP)
  | fn (f : FuncId)
  deriving DecidableEq

inductive OPat where
  | box (t : Ty)
  | arr (e : TypeId) (t : Ty)
  | mix (l : List CP)
  | clo (g : FuncId) (l : List CP)
  | ifc (t : TypeId) (i : Nat)
  | map (mt : TypeId) (ka va : Bool) (k v : Ty) (nl : Bool)
  | iter (m : Nat)
  deriving DecidableEq

@[reducible] def cpDen : List CP → Type
  | [] => Unit
  | .dat t :: l => t.den × cpDen l
  | .own _ :: l => cpDen l
  | .ptr _ :: l => cpDen l
  | .fn _ :: l => cpDen l

@[reducible] def slotsDen : List Pat → Type
  | [] => Unit
  | .one t :: l => t.den × slotsDen l
  | .agg t :: l => t.den × slotsDen l
  | .dead :: l => slotsDen l
  | .own _ :: l => slotsDen l
  | .ptr _ :: l => slotsDen l
  | .mix c :: l => cpDen c × slotsDen l
  | .fn _ :: l => slotsDen l

@[reducible] def objsDen : List (Nat × OPat) → Type
  | [] => Unit
  | (_, .box t) :: l => t.den × objsDen l
  | (_, .arr _ t) :: l => List t.den × objsDen l
  | (_, .mix c) :: l => cpDen c × objsDen l
  | (_, .clo _ c) :: l => cpDen c × objsDen l
  | (_, .ifc _ _) :: l => objsDen l
  | (_, .map _ _ _ k v _) :: l => (List (Nat × (k.den × v.den)) × Nat) × objsDen l
  | (_, .iter _) :: l => (Nat × List Nat) × objsDen l

abbrev SV.fnv (f : FuncId) : SV := .at (.func (.func f) #[] #[])

def castM (k v k' v' : Ty) (l : List (Nat × (k.den × v.den))) : Option (List (Nat × (k'.den × v'.den))) :=
  if h : k = k' ∧ v = v' then some (h.1 ▸ h.2 ▸ l) else none

def encCP (ρ : Nat → Nat) : (l : List CP) → cpDen l → List SV
  | [], _ => []
  | .dat t :: l, x => enc t x.1 ++ encCP ρ l x.2
  | .own i :: l, x => .own (ρ i) :: encCP ρ l x
  | .ptr i :: l, x => .ptr (ρ i) 0 :: encCP ρ l x
  | .fn f :: l, x => .fnv f :: encCP ρ l x

def encSlots (ρ : Nat → Nat) : (ps : List Pat) → slotsDen ps → List SS
  | [], _ => []
  | .one t :: l, x => .one (encOne t x.1) :: encSlots ρ l x.2
  | .agg t :: l, x => .agg (enc t x.1) :: encSlots ρ l x.2
  | .dead :: l, x => .dead :: encSlots ρ l x
  | .own i :: l, x => .one (.own (ρ i)) :: encSlots ρ l x
  | .ptr i :: l, x => .one (.ptr (ρ i) 0) :: encSlots ρ l x
  | .mix c :: l, x => .agg (encCP ρ c x.1) :: encSlots ρ l x.2
  | .fn f :: l, x => .one (.fnv f) :: encSlots ρ l x

def encObjs (ρ : Nat → Nat) : (os : List (Nat × OPat)) → objsDen os → List (Nat × Ob)
  | [], _ => []
  | (i, .box t) :: l, x => (ρ i, .box (enc t x.1)) :: encObjs ρ l x.2
  | (i, .arr e t) :: l, x => (ρ i, .arr e t x.1) :: encObjs ρ l x.2
  | (i, .mix c) :: l, x => (ρ i, .box (encCP ρ c x.1)) :: encObjs ρ l x.2
  | (i, .clo g c) :: l, x => (ρ i, .clo g (encCP ρ c x.1)) :: encObjs ρ l x.2
  | (i, .ifc t j) :: l, x => (ρ i, .ifc t (.own (ρ j))) :: encObjs ρ l x
  | (i, .map mt ka va k v nl) :: l, x => (ρ i, .map mt ka va k v x.1.1 x.1.2 nl) :: encObjs ρ l x.2
  | (i, .iter m) :: l, x => (ρ i, .iter (ρ m) x.1.1 x.1.2) :: encObjs ρ l x.2

/-- Is a value this function, with nothing captured? -/
def isFn (f : FuncId) : Value → Bool
  | .func (.func g) a b => Nat.beq g f && Nat.beq a.size 0 && Nat.beq b.size 0
  | _ => false

theorem isFn_ok {f : FuncId} {v : Value} (h : isFn f v = true) : v = .func (.func f) #[] #[] := by
  unfold isFn at h
  split at h
  · rename_i g a b
    simp only [Bool.and_eq_true] at h
    obtain ⟨⟨h1, h2⟩, h3⟩ := h
    rw [Nat.eq_of_beq_eq_true h1, Array.eq_empty_of_size_eq_zero (Nat.eq_of_beq_eq_true h2), Array.eq_empty_of_size_eq_zero (Nat.eq_of_beq_eq_true h3)]
  · cases h

def decCP (lk : Lk) (keep : List Nat) (ρ : Nat → Nat) : (l : List CP) → List SV → Option (cpDen l)
  | [], [] => some ()
  | [], _ :: _ => none
  | .dat t :: l, cs => match decS lk keep t cs with
    | some (x, r) => match decCP lk keep ρ l r with
      | some y => some (x, y)
      | none => none
    | none => none
  | .own i :: l, .own j :: cs => bif Nat.beq j (ρ i) then decCP lk keep ρ l cs else none
  | .ptr i :: l, .ptr j 0 :: cs => bif Nat.beq j (ρ i) then decCP lk keep ρ l cs else none
  | .fn f :: l, .at v :: cs => bif isFn f v then decCP lk keep ρ l cs else none
  | _, _ => none

def decSlots (lk : Lk) (keep : List Nat) (ρ : Nat → Nat) : (ps : List Pat) → List SS → Option (slotsDen ps)
  | [], [] => some ()
  | .one t :: ps, .val (.one v) :: l => match decSAll lk keep t [v], decSlots lk keep ρ ps l with
    | some x, some y => some (x, y)
    | _, _ => none
  | .agg t :: ps, .val (.agg c) :: l => match decSAll lk keep t c, decSlots lk keep ρ ps l with
    | some x, some y => some (x, y)
    | _, _ => none
  | .dead :: ps, _ :: l => decSlots lk keep ρ ps l
  | .own i :: ps, .val (.one (.own j)) :: l => bif Nat.beq j (ρ i) then decSlots lk keep ρ ps l else none
  | .ptr i :: ps, .val (.one (.ptr j 0)) :: l => bif Nat.beq j (ρ i) then decSlots lk keep ρ ps l else none
  | .mix c :: ps, .val (.agg cs) :: l => match decCP lk keep ρ c cs, decSlots lk keep ρ ps l with
    | some x, some y => some (x, y)
    | _, _ => none
  | .fn f :: ps, .val (.one (.at v)) :: l => bif isFn f v then decSlots lk keep ρ ps l else none
  | _, _ => none

def decObjs (lk : Lk) (keep : List Nat) (ρ : Nat → Nat) : (os : List (Nat × OPat)) → Option (objsDen os)
  | [] => some ()
  | (i, .box t) :: l => match lk (ρ i) with
    | some (.box cells) => match decSAll lk keep t cells, decObjs lk keep ρ l with
      | some x, some y => some (x, y)
      | _, _ => none
    | _ => none
  | (i, .arr e t) :: l => match lk (ρ i) with
    | some (.arr e' u m) => bif Nat.beq e' e then (match castL u t m, decObjs lk keep ρ l with
      | some x, some y => some (x, y)
      | _, _ => none) else none
    | _ => none
  | (i, .mix c) :: l => match lk (ρ i) with
    | some (.box cells) => match decCP lk keep ρ c cells, decObjs lk keep ρ l with
      | some x, some y => some (x, y)
      | _, _ => none
    | _ => none
  | (i, .clo g c) :: l => match lk (ρ i) with
    | some (.clo g' cells) => bif Nat.beq g' g then (match decCP lk keep ρ c cells, decObjs lk keep ρ l with
      | some x, some y => some (x, y)
      | _, _ => none) else none
    | _ => none
  | (i, .ifc t j) :: l => match lk (ρ i) with
    | some (.ifc t' (.own j')) => bif Nat.beq t' t && Nat.beq j' (ρ j) then decObjs lk keep ρ l else none
    | _ => none
  | (i, .map mt ka va k v nl) :: l => match lk (ρ i) with
    | some (.map mt' ka' va' k' v' m c nl') => bif Nat.beq mt' mt && (ka' == ka) && (va' == va) && (!nl' || nl) then (match castM k' v' k v m, decObjs lk keep ρ l with
      | some x, some y => some ((x, c), y)
      | _, _ => none) else none
    | _ => none
  | (i, .iter m) :: l => match lk (ρ i) with
    | some (.iter m' s seen) => bif Nat.beq m' (ρ m) then (match decObjs lk keep ρ l with
      | some y => some ((s, seen), y)
      | none => none) else none
    | _ => none

@[reducible] def spDen : List (Nat × Pat) → Type
  | [] => Unit
  | (_, .one t) :: l => t.den × spDen l
  | (_, .agg t) :: l => t.den × spDen l
  | (_, .dead) :: l => spDen l
  | (_, .own _) :: l => spDen l
  | (_, .ptr _) :: l => spDen l
  | (_, .mix c) :: l => cpDen c × spDen l
  | (_, .fn _) :: l => spDen l

def encSp : (ps : List (Nat × Pat)) → spDen ps → List SS → List SS
  | [], _, b => b
  | (k, .one t) :: l, x, b => put (encSp l x.2 b) k (.one (encOne t x.1))
  | (k, .agg t) :: l, x, b => put (encSp l x.2 b) k (.agg (enc t x.1))
  | (_, .dead) :: l, x, b => encSp l x b
  | (k, .own i) :: l, x, b => put (encSp l x b) k (.one (.own i))
  | (k, .ptr i) :: l, x, b => put (encSp l x b) k (.one (.ptr i 0))
  | (k, .mix c) :: l, x, b => put (encSp l x.2 b) k (.agg (encCP (fun i => i) c x.1))
  | (k, .fn f) :: l, x, b => put (encSp l x b) k (.one (.fnv f))

def decSp (S : St) (keep : List Nat) : (ps : List (Nat × Pat)) → Option (spDen ps)
  | [] => some ()
  | (k, .one t) :: ps => match nth S.slots k with
    | .val (.one v) => match decSAll (look S.objs) keep t [v], decSp S keep ps with
      | some x, some y => some (x, y)
      | _, _ => none
    | _ => none
  | (k, .agg t) :: ps => match nth S.slots k with
    | .val (.agg c) => match decSAll (look S.objs) keep t c, decSp S keep ps with
      | some x, some y => some (x, y)
      | _, _ => none
    | _ => none
  | (_, .dead) :: ps => decSp S keep ps
  | (k, .own i) :: ps => match nth S.slots k with
    | .val (.one (.own j)) => bif Nat.beq j i then decSp S keep ps else none
    | _ => none
  | (k, .ptr i) :: ps => match nth S.slots k with
    | .val (.one (.ptr j 0)) => bif Nat.beq j i then decSp S keep ps else none
    | _ => none
  | (k, .mix c) :: ps => match nth S.slots k with
    | .val (.agg cs) => match decCP (look S.objs) keep (fun i => i) c cs, decSp S keep ps with
      | some x, some y => some (x, y)
      | _, _ => none
    | _ => none
  | (k, .fn f) :: ps => match nth S.slots k with
    | .val (.one (.at v)) => bif isFn f v then decSp S keep ps else none
    | _ => none

/-- A shape of states: n slots, those that are named, the objects, and those that came in. -/
structure Tmpl where
  n : Nat
  slots : List (Nat × Pat)
  objs : List (Nat × OPat)
  pins : List Nat := []

def Tmpl.ids (T : Tmpl) : List Nat := T.objs.map (·.1)
@[reducible] def Tmpl.den (T : Tmpl) : Type := spDen T.slots × objsDen T.objs
def Tmpl.enc (T : Tmpl) (x : T.den) : St := ⟨encSp T.slots x.1 (List.replicate T.n .dead), encObjs (fun i => i) T.objs x.2, T.pins⟩

def nodupB : List Nat → Bool
  | [] => true
  | i :: l => !l.contains i && nodupB l

/-- All of a are in b. -/
def disjN (a b : List Nat) : Bool := a.all fun i => memN i b

def Tmpl.dec (T : Tmpl) (S : St) : Option T.den :=
  bif nodupB T.ids && Nat.beq S.slots.length T.n && disjN T.pins S.pins then
    match decSp S T.ids T.slots, decObjs (look S.objs) T.ids (fun i => i) T.objs with
    | some a, some b => some (a, b)
    | _, _ => none
  else none

/- Data can be told apart. -/

def Ty.deq : (t : Ty) → DecidableEq t.den
  | .int _ => inferInstanceAs (DecidableEq Int)
  | .bool => inferInstanceAs (DecidableEq Bool)
  | .str => inferInstanceAs (DecidableEq ByteArray)
  | .un => inferInstanceAs (DecidableEq Unit)
  | .sl t => haveI := t.deq; inferInstanceAs (DecidableEq (List t.den))
  | .pr a b => haveI := a.deq; haveI := b.deq; inferInstanceAs (DecidableEq (a.den × b.den))

instance (t : Ty) : DecidableEq t.den := t.deq

def cpDeq : (l : List CP) → DecidableEq (cpDen l)
  | [] => inferInstanceAs (DecidableEq Unit)
  | .dat t :: l => haveI := cpDeq l; inferInstanceAs (DecidableEq (t.den × cpDen l))
  | .own _ :: l => cpDeq l
  | .ptr _ :: l => cpDeq l
  | .fn _ :: l => cpDeq l

instance (l : List CP) : DecidableEq (cpDen l) := cpDeq l

def slotsDeq : (l : List Pat) → DecidableEq (slotsDen l)
  | [] => inferInstanceAs (DecidableEq Unit)
  | .one t :: l => haveI := slotsDeq l; inferInstanceAs (DecidableEq (t.den × slotsDen l))
  | .agg t :: l => haveI := slotsDeq l; inferInstanceAs (DecidableEq (t.den × slotsDen l))
  | .dead :: l => slotsDeq l
  | .own _ :: l => slotsDeq l
  | .ptr _ :: l => slotsDeq l
  | .mix c :: l => haveI := slotsDeq l; inferInstanceAs (DecidableEq (cpDen c × slotsDen l))
  | .fn _ :: l => slotsDeq l

instance (l : List Pat) : DecidableEq (slotsDen l) := slotsDeq l

def objsDeq : (l : List (Nat × OPat)) → DecidableEq (objsDen l)
  | [] => inferInstanceAs (DecidableEq Unit)
  | (_, .box t) :: l => haveI := objsDeq l; inferInstanceAs (DecidableEq (t.den × objsDen l))
  | (_, .arr _ t) :: l => haveI := objsDeq l; inferInstanceAs (DecidableEq (List t.den × objsDen l))
  | (_, .mix c) :: l => haveI := objsDeq l; inferInstanceAs (DecidableEq (cpDen c × objsDen l))
  | (_, .clo _ c) :: l => haveI := objsDeq l; inferInstanceAs (DecidableEq (cpDen c × objsDen l))
  | (_, .ifc _ _) :: l => objsDeq l
  | (_, .map _ _ _ k v _) :: l => haveI := objsDeq l; inferInstanceAs (DecidableEq ((List (Nat × (k.den × v.den)) × Nat) × objsDen l))
  | (_, .iter _) :: l => haveI := objsDeq l; inferInstanceAs (DecidableEq ((Nat × List Nat) × objsDen l))

instance (l : List (Nat × OPat)) : DecidableEq (objsDen l) := objsDeq l

def spDeq : (l : List (Nat × Pat)) → DecidableEq (spDen l)
  | [] => inferInstanceAs (DecidableEq Unit)
  | (_, .one t) :: l => haveI := spDeq l; inferInstanceAs (DecidableEq (t.den × spDen l))
  | (_, .agg t) :: l => haveI := spDeq l; inferInstanceAs (DecidableEq (t.den × spDen l))
  | (_, .dead) :: l => spDeq l
  | (_, .own _) :: l => spDeq l
  | (_, .ptr _) :: l => spDeq l
  | (_, .mix c) :: l => haveI := spDeq l; inferInstanceAs (DecidableEq (cpDen c × spDen l))
  | (_, .fn _) :: l => spDeq l

instance (l : List (Nat × Pat)) : DecidableEq (spDen l) := spDeq l

section
variable {C : Ctx} {hd : Nat → Value} {S : St} {lk : Lk} {tmps : Array Value} {w : World}

theorem Ty.cells_flat {w : World} {F F' : Nat → Prop} : ∀ (t : Ty) (x : t.den) (cs : List Value), t.flat = true → t.cells w F x cs → t.cells w F' x cs
  | .int _, _, _, _, h => h
  | .bool, _, _, _, h => h
  | .str, _, _, _, h => h
  | .un, _, _, _, h => h
  | .sl _, _, _, hf, _ => by cases hf
  | .pr a b, _, _, hf, ⟨c, d, h, hc, hd⟩ => by
    simp only [Ty.flat, Bool.and_eq_true] at hf
    exact ⟨c, d, h, a.cells_flat _ _ hf.1 hc, b.cells_flat _ _ hf.2 hd⟩

/-- F' forbids no more than F, and none of the objects but those to be kept. -/
structure Lets (C : Ctx) (hd : Nat → Value) (S : St) (w : World) (keep : List Nat) (F' : Nat → Prop) : Prop where
  less : ∀ b, b < w.heap.size → F' b → C.F hd S b
  free : ∀ i o, (i, o) ∈ S.objs → i ∉ keep → ∀ b, blk (hd i) = some b → ¬ F' b

theorem Lets.keeps {keep : List Nat} {F' : Nat → Prop} (h : Lets C hd S w keep F') : Keeps w w (C.F hd S) F' := ⟨fun _ _ _ => rfl, h.less⟩

theorem listK_ok (I : Inv C hd S tmps w) (hsub : Sub lk S) {keep : List Nat} {F' : Nat → Prop} (L : Lets C hd S w keep F') {t : Ty} {v : SV} {l : List t.den} {x : Value} (h : listK lk keep t v = some l) (hx : SVRel w (C.F hd S) hd v x) :
    sliceRel (t.cells w F') w F' l x := by
  unfold listK at h
  obtain ⟨hk, h⟩ := bif_some' h
  cases v with
  | «at» v =>
    cases v with
    | slice p n c =>
      cases p with
      | some p => simp [listOf] at h
      | none =>
        cases n with
        | succ n => simp [listOf] at h
        | zero =>
          cases c with
          | succ c => simp [listOf] at h
          | zero =>
            simp only [listOf, Option.some.injEq] at h
            cases hx
            exact .inl ⟨⟨_, rfl⟩, h.symm⟩
    | _ => simp [listOf] at h
  | fz u m =>
    have := castL_rel h hx
    exact sliceRel.keep L.keeps (t.cells_keep L.keeps) this
  | own i =>
    simp only [listOf] at h
    split at h
    · rename_i e u m hlk
      obtain ⟨rfl, he⟩ := castL_eq h
      simp only at he
      subst he
      rw [hx.1]
      have hm := look_mem (hsub _ _ hlk)
      exact own_frozen (I.objs _ hm) L.keeps (L.free i _ hm (by simpa [SV.refIn] using hk))
    · cases h
  | vw i n off len =>
    simp only [listOf] at h
    split at h
    · rename_i e u m hlk
      obtain ⟨hn, h1⟩ := bif_some h
      clear h
      have hn := Nat.eq_of_beq_eq_true hn
      split at h1
      · rename_i m' hm'
        obtain ⟨rfl, he⟩ := castL_eq hm'
        simp only at he
        subst he
        simp only [Option.some.injEq] at h1
        subst h1
        rw [hn] at hx
        have hm := look_mem (hsub _ _ hlk)
        exact vw_frozen (I.objs _ hm) L.keeps (L.free i _ hm (by simpa [SV.refIn] using hk)) hx
      · cases h1
    · cases h
  | ptr i o => simp [listOf] at h
  | ep i n a j => simp [listOf] at h
  | bs i off n u =>
    obtain ⟨i', o, b, off', xs, hm, hrf, hb, h1, hr, hc⟩ := part_ok I hsub (.inl ⟨_, _, _, _, rfl⟩) h hx
    simp only [SV.ref, Option.some.injEq] at hrf
    subst hrf
    exact .inr ⟨b, off', _, xs, h1, Nat.le_refl _, rows.mono (t.cells_keep L.keeps) hr, hc, .inr (L.free _ o hm (by simpa [SV.refIn] using hk) b hb)⟩
  | es i n a j m u =>
    obtain ⟨i', o, b, off', xs, hm, hrf, hb, h1, hr, hc⟩ := part_ok I hsub (.inr ⟨_, _, _, _, _, _, rfl⟩) h hx
    simp only [SV.ref, Option.some.injEq] at hrf
    subst hrf
    exact .inr ⟨b, off', _, xs, h1, Nat.le_refl _, rows.mono (t.cells_keep L.keeps) hr, hc, .inr (L.free _ o hm (by simpa [SV.refIn] using hk) b hb)⟩
  | fp u d j => simp [listOf] at h
  | dead => simp [listOf] at h

theorem decS_ok (I : Inv C hd S tmps w) (hsub : Sub lk S) {keep : List Nat} {F' : Nat → Prop} (L : Lets C hd S w keep F') : ∀ (t : Ty) (cs : List SV) (x : t.den) (r : List SV) (vs : List Value), decS lk keep t cs = some (x, r) →
    all2 (SVRel w (C.F hd S) hd) cs vs → ∃ c d, vs = c ++ d ∧ t.cells w F' x c ∧ all2 (SVRel w (C.F hd S) hd) r d := by
  intro t
  have flat : ∀ t : Ty, t.flat = true → ∀ (cs : List SV) (x : t.den) (r : List SV) (vs : List Value), dec t cs = some (x, r) →
    all2 (SVRel w (C.F hd S) hd) cs vs → ∃ c d, vs = c ++ d ∧ t.cells w F' x c ∧ all2 (SVRel w (C.F hd S) hd) r d := by
    intro t hf cs x r vs h hv
    obtain ⟨c, d, e, hc, hd'⟩ := dec_ok t cs x r vs h hv
    exact ⟨c, d, e, t.cells_flat _ _ hf hc, hd'⟩
  induction t with
  | int k => intro cs x r vs h hv; exact flat _ rfl cs x r vs (by simpa [decS] using h) hv
  | bool => intro cs x r vs h hv; exact flat _ rfl cs x r vs (by simpa [decS] using h) hv
  | str => intro cs x r vs h hv; exact flat _ rfl cs x r vs (by simpa [decS] using h) hv
  | un => intro cs x r vs h hv; exact flat _ rfl cs x r vs (by simpa [decS] using h) hv
  | sl t ih =>
    intro cs x r vs h hv
    cases cs with
    | nil => simp [decS, dec] at h
    | cons v cs =>
      cases vs with
      | nil => exact hv.elim
      | cons u vs =>
        simp only [decS, Option.map_eq_some_iff, Prod.mk.injEq] at h
        obtain ⟨l, hl, rfl, rfl⟩ := h
        exact ⟨[u], vs, rfl, ⟨u, rfl, listK_ok I hsub L hl hv.1⟩, hv.2⟩
  | pr a b iha ihb =>
    intro cs x r vs h hv
    simp only [decS, Option.bind_eq_some_iff, Option.map_eq_some_iff] at h
    obtain ⟨⟨x1, r1⟩, h1, ⟨x2, r2⟩, h2, he⟩ := h
    simp only [Prod.mk.injEq] at he
    obtain ⟨rfl, rfl⟩ := he
    obtain ⟨c1, d1, e1, hc1, hd1⟩ := iha _ _ _ _ h1 hv
    obtain ⟨c2, d2, e2, hc2, hd2⟩ := ihb _ _ _ _ h2 hd1
    exact ⟨c1 ++ c2, d2, by rw [e1, e2, List.append_assoc], ⟨c1, c2, rfl, hc1, hc2⟩, hd2⟩

theorem decSAll_ok (I : Inv C hd S tmps w) (hsub : Sub lk S) {keep : List Nat} {F' : Nat → Prop} (L : Lets C hd S w keep F') {t : Ty} {cs : List SV} {x : t.den} {vs : List Value} (h : decSAll lk keep t cs = some x)
    (hv : all2 (SVRel w (C.F hd S) hd) cs vs) : t.cells w F' x vs := by
  unfold decSAll at h
  split at h
  · rename_i y hy
    simp only [Option.some.injEq] at h
    subst h
    obtain ⟨c, d, e, hc, hd'⟩ := decS_ok I hsub L t cs _ _ vs hy hv
    cases d with
    | nil => rw [e, List.append_nil]; exact hc
    | cons _ _ => exact hd'.elim
  · cases h

theorem refIn_ref (keep : List Nat) (v : SV) : v.refIn keep = match v.ref with | some i => keep.contains i | none => false := by cases v <;> rfl

theorem decS_keep {keep0 keep : List Nat} : ∀ (t : Ty) (cs : List SV) (x : t.den) (r : List SV), decS lk keep0 t cs = some (x, r) → (∀ i ∈ cellRefs cs, i ∉ keep0 → i ∉ keep) → decS lk keep t cs = some (x, r) ∧ ∀ i ∈ cellRefs r, i ∉ keep0 → i ∉ keep := by
  have sub1 : ∀ (v : SV) (cs : List SV) (i : Nat), i ∈ cellRefs cs → i ∈ cellRefs (v :: cs) := by
    intro v cs i hi
    simp only [cellRefs]
    split
    · exact .tail _ hi
    · exact hi
  intro t
  induction t with
  | sl t ih =>
    intro cs x r h hk
    cases cs with
    | nil => simp [decS, dec] at h
    | cons v cs =>
      simp only [decS, Option.map_eq_some_iff, Prod.mk.injEq] at h ⊢
      obtain ⟨l, hl, rfl, rfl⟩ := h
      refine ⟨⟨l, ?_, rfl, rfl⟩, fun i hi => hk i (sub1 v _ i hi)⟩
      unfold listK at hl ⊢
      obtain ⟨h0, hl⟩ := bif_some' hl
      have h1 : v.refIn keep = false := by
        rw [refIn_ref] at h0 ⊢
        cases hr : v.ref with
        | none => rfl
        | some j =>
          rw [hr] at h0
          have := hk j (by simp [cellRefs, hr]) (by simpa using h0)
          simpa using this
      rw [h1]
      exact hl
  | pr a b iha ihb =>
    intro cs x r h hk
    simp only [decS, Option.bind_eq_some_iff, Option.map_eq_some_iff] at h ⊢
    obtain ⟨⟨x1, r1⟩, h1, ⟨x2, r2⟩, h2, he⟩ := h
    obtain ⟨h3, k3⟩ := iha _ _ _ h1 hk
    obtain ⟨h4, k4⟩ := ihb _ _ _ h2 k3
    simp only [Prod.mk.injEq] at he
    obtain ⟨rfl, rfl⟩ := he
    exact ⟨⟨_, h3, _, h4, rfl⟩, k4⟩
  | un =>
    intro cs x r h hk
    have e : ∀ keep, decS lk keep .un cs = some ((), cs) := fun keep => by cases cs <;> rfl
    rw [e] at h ⊢
    simp only [Option.some.injEq, Prod.mk.injEq, true_and] at h
    subst h
    exact ⟨rfl, hk⟩
  | int k =>
    intro cs x r h hk
    refine ⟨h, ?_⟩
    simp only [decS] at h
    cases cs with
    | nil => simp [dec] at h
    | cons c cs => cases c <;> (try (simp [dec] at h; done)); rename_i v; cases v <;> (try (simp [dec] at h; done)); rename_i k' n; simp only [dec] at h; split at h
                   · simp only [Option.some.injEq, Prod.mk.injEq] at h; obtain ⟨_, rfl⟩ := h; exact fun i hi => hk i (sub1 _ _ i hi)
                   · cases h
  | bool =>
    intro cs x r h hk
    refine ⟨h, ?_⟩
    simp only [decS] at h
    cases cs with
    | nil => simp [dec] at h
    | cons c cs => cases c <;> (try (simp [dec] at h; done)); rename_i v; cases v <;> (try (simp [dec] at h; done)); simp only [dec, Option.some.injEq, Prod.mk.injEq] at h; obtain ⟨_, rfl⟩ := h; exact fun i hi => hk i (sub1 _ _ i hi)
  | str =>
    intro cs x r h hk
    refine ⟨h, ?_⟩
    simp only [decS] at h
    cases cs with
    | nil => simp [dec] at h
    | cons c cs => cases c <;> (try (simp [dec] at h; done)); rename_i v; cases v <;> (try (simp [dec] at h; done)); simp only [dec, Option.some.injEq, Prod.mk.injEq] at h; obtain ⟨_, rfl⟩ := h; exact fun i hi => hk i (sub1 _ _ i hi)

theorem decSAll_keep {keep0 keep : List Nat} {t : Ty} {cs : List SV} {x : t.den} (h : decSAll lk keep0 t cs = some x) (hk : ∀ i ∈ cellRefs cs, i ∉ keep0 → i ∉ keep) : decSAll lk keep t cs = some x := by
  unfold decSAll at h ⊢
  split at h
  · rename_i y hy
    rw [(decS_keep t cs _ _ hy hk).1]
    exact h
  · cases h

theorem decCP_keep {keep0 keep : List Nat} {ρ : Nat → Nat} : ∀ (l : List CP) (cs : List SV) (x : cpDen l), decCP lk keep0 ρ l cs = some x → (∀ i ∈ cellRefs cs, i ∉ keep0 → i ∉ keep) → decCP lk keep ρ l cs = some x := by
  intro l
  induction l with
  | nil => intro cs x h _; cases cs <;> exact h
  | cons p l ih =>
    intro cs x h hk
    cases p with
    | dat t =>
      simp only [decCP] at h ⊢
      split at h
      · rename_i a r ha
        obtain ⟨h1, h2⟩ := decS_keep t cs a r ha hk
        rw [h1]
        split at h
        · rename_i y hy
          simp only [ih r y hy h2]
          exact h
        · cases h
      · cases h
    | own i =>
      cases cs with
      | nil => simp [decCP] at h
      | cons v cs =>
        cases v <;> (try (simp [decCP] at h; done))
        simp only [decCP] at h ⊢
        obtain ⟨hb, h⟩ := bif_some h
        rw [hb, cond_true]
        exact ih cs x h fun j hj => hk j (by simp only [cellRefs, SV.ref]; exact .tail _ hj)
    | ptr i =>
      cases cs with
      | nil => simp [decCP] at h
      | cons v cs =>
        cases v <;> (try (simp [decCP] at h; done))
        rename_i j o
        cases o with
        | succ o => simp [decCP] at h
        | zero =>
          simp only [decCP] at h ⊢
          obtain ⟨hb, h⟩ := bif_some h
          rw [hb, cond_true]
          exact ih cs x h fun j hj => hk j (by simp only [cellRefs, SV.ref]; exact .tail _ hj)
    | fn f =>
      cases cs with
      | nil => simp [decCP] at h
      | cons v cs =>
        cases v <;> (try (simp [decCP] at h; done))
        simp only [decCP] at h ⊢
        obtain ⟨hb, h⟩ := bif_some h
        rw [hb, cond_true]
        exact ih cs x h fun j hj => hk j (by simpa only [cellRefs, SV.ref] using hj)

theorem decSlots_keep {keep0 keep : List Nat} {ρ : Nat → Nat} : ∀ (ps : List Pat) (l : List SS) (x : slotsDen ps), decSlots lk keep0 ρ ps l = some x → (∀ i ∈ ssRefs l, i ∉ keep0 → i ∉ keep) → decSlots lk keep ρ ps l = some x := by
  intro ps
  induction ps with
  | nil => intro l x h _; cases l <;> exact h
  | cons p ps ih =>
    intro l x h hk
    cases l with
    | nil => cases p <;> exact h
    | cons s l =>
      have hk1 : ∀ i ∈ s.refs, i ∉ keep0 → i ∉ keep := fun i hi => hk i (by simp only [ssRefs, List.mem_append]; exact .inl hi)
      have hk2 : ∀ i ∈ ssRefs l, i ∉ keep0 → i ∉ keep := fun i hi => hk i (by simp only [ssRefs, List.mem_append]; exact .inr hi)
      cases p with
      | dead => simp only [decSlots] at h ⊢; exact ih l x h hk2
      | one t =>
        cases s with
        | tup _ => simp [decSlots] at h
        | val c =>
          cases c with
          | agg _ => simp [decSlots] at h
          | one v =>
            simp only [decSlots] at h ⊢
            split at h
            · rename_i a b ha hb
              rw [decSAll_keep ha hk1, ih l b hb hk2]
              exact h
            · cases h
      | agg t =>
        cases s with
        | tup _ => simp [decSlots] at h
        | val c =>
          cases c with
          | one _ => simp [decSlots] at h
          | agg cs =>
            simp only [decSlots] at h ⊢
            split at h
            · rename_i a b ha hb
              rw [decSAll_keep ha hk1, ih l b hb hk2]
              exact h
            · cases h
      | own i =>
        cases s with
        | tup _ => simp [decSlots] at h
        | val c =>
          cases c with
          | agg _ => simp [decSlots] at h
          | one v =>
            cases v <;> (try (simp [decSlots] at h; done))
            simp only [decSlots] at h ⊢
            obtain ⟨hb, h⟩ := bif_some h
            rw [hb, cond_true]
            exact ih l x h hk2
      | ptr i =>
        cases s with
        | tup _ => simp [decSlots] at h
        | val c =>
          cases c with
          | agg _ => simp [decSlots] at h
          | one v =>
            cases v <;> (try (simp [decSlots] at h; done))
            rename_i j o
            cases o with
            | succ o => simp [decSlots] at h
            | zero =>
              simp only [decSlots] at h ⊢
              obtain ⟨hb, h⟩ := bif_some h
              rw [hb, cond_true]
              exact ih l x h hk2
      | mix c =>
        cases s with
        | tup _ => simp [decSlots] at h
        | val cv =>
          cases cv with
          | one _ => simp [decSlots] at h
          | agg cs =>
            simp only [decSlots] at h ⊢
            split at h
            · rename_i a b ha hb
              rw [decCP_keep c cs a ha hk1, ih l b hb hk2]
              exact h
            · cases h
      | fn f =>
        cases s with
        | tup _ => simp [decSlots] at h
        | val c =>
          cases c with
          | agg _ => simp [decSlots] at h
          | one v =>
            cases v <;> (try (simp [decSlots] at h; done))
            simp only [decSlots] at h ⊢
            obtain ⟨hb, h⟩ := bif_some h
            rw [hb, cond_true]
            exact ih l x h hk2

theorem decObjs_keep {keep0 keep : List Nat} {ρ : Nat → Nat} : ∀ (os : List (Nat × OPat)) (x : objsDen os), decObjs lk keep0 ρ os = some x → (∀ k ∈ os.map (·.1), ∀ i ∈ obRefs (lk (ρ k)), i ∉ keep0 → i ∉ keep) → decObjs lk keep ρ os = some x := by
  intro os
  induction os with
  | nil => intro x h _; exact h
  | cons p os ih =>
    obtain ⟨j, p⟩ := p
    intro x h hk
    have hk0 := hk j (.head _)
    have hk1 : ∀ k ∈ os.map (·.1), ∀ i ∈ obRefs (lk (ρ k)), i ∉ keep0 → i ∉ keep := fun k hk' => hk k (.tail _ hk')
    cases p with
    | box t =>
      simp only [decObjs] at h ⊢
      split at h
      · rename_i cells hlk
        rw [hlk] at hk0
        split at h
        · rename_i a b ha hb
          simp only [decSAll_keep ha hk0, ih b hb hk1]
          exact h
        · cases h
      · cases h
    | arr e t =>
      simp only [decObjs] at h ⊢
      split at h
      · rename_i e' u m hlk
        obtain ⟨he, h1⟩ := bif_some h
        clear h
        split at h1
        · rename_i a b ha hb
          simp only [he, cond_true, ha, ih b hb hk1]
          exact h1
        · cases h1
      · cases h
    | mix c =>
      simp only [decObjs] at h ⊢
      split at h
      · rename_i cells hlk
        rw [hlk] at hk0
        split at h
        · rename_i a b ha hb
          simp only [decCP_keep c cells a ha hk0, ih b hb hk1]
          exact h
        · cases h
      · cases h
    | clo g c =>
      simp only [decObjs] at h ⊢
      split at h
      · rename_i g' cells hlk
        rw [hlk] at hk0
        obtain ⟨hg, h1⟩ := bif_some h
        clear h
        split at h1
        · rename_i a b ha hb
          simp only [hg, cond_true, decCP_keep c cells a ha hk0, ih b hb hk1]
          exact h1
        · cases h1
      · cases h
    | ifc t i =>
      simp only [decObjs] at h ⊢
      split at h
      · rename_i t' j' hlk
        obtain ⟨hg, h1⟩ := bif_some h
        simp only [hg, cond_true]
        exact ih x h1 hk1
      · cases h
    | map mt ka va k v nl =>
      simp only [decObjs] at h ⊢
      split at h
      · rename_i mt' ka' va' k' v' m c nl' hlk
        obtain ⟨he, h1⟩ := bif_some h
        clear h
        split at h1
        · rename_i a b ha hb
          simp only [he, cond_true, ha, ih b hb hk1]
          exact h1
        · cases h1
      · cases h
    | iter m =>
      simp only [decObjs] at h ⊢
      split at h
      · rename_i m' sn seen hlk
        obtain ⟨he, h1⟩ := bif_some h
        clear h
        split at h1
        · rename_i b hb
          simp only [he, cond_true, ih b hb hk1]
          exact h1
        · cases h1
      · cases h

/-- Data name no object. -/
theorem all2_data {F' : Nat → Prop} {hd0 hd' : Nat → Value} : ∀ (t : Ty) (x : t.den) (vs : List Value), all2 (SVRel w F' hd0) (enc t x) vs → all2 (SVRel w F' hd') (enc t x) vs := by
  intro t x vs h
  have : ∀ (l : List SV) (vs : List Value), (∀ v ∈ l, v.ref = none) → all2 (SVRel w F' hd0) l vs → all2 (SVRel w F' hd') l vs := by
    intro l
    induction l with
    | nil => intro vs _ h; cases vs <;> exact h
    | cons v l ih =>
      intro vs hr h
      cases vs with
      | nil => exact h.elim
      | cons u vs => exact ⟨SVRel.keep (Keeps.refl w F') (fun i hi => by rw [hr v (.head _)] at hi; cases hi) h.1, ih vs (fun x hx => hr x (.tail _ hx)) h.2⟩
  refine this _ vs ?_ h
  clear h vs
  induction t with
  | pr a b iha ihb =>
    intro v hv
    simp only [enc, List.mem_append] at hv
    rcases hv with hv | hv
    · exact iha _ v hv
    · exact ihb _ v hv
  | un => intro v hv; simp [enc] at hv
  | _ => intro v hv; simp only [enc, List.mem_singleton] at hv; subst hv; rfl

theorem decCP_ok (I : Inv C hd S tmps w) (hsub : Sub lk S) {keep : List Nat} {F' : Nat → Prop} (L : Lets C hd S w keep F') {ρ : Nat → Nat} : ∀ (l : List CP) (cs : List SV) (x : cpDen l) (vs : List Value), decCP lk keep ρ l cs = some x →
    all2 (SVRel w (C.F hd S) hd) cs vs → all2 (SVRel w F' fun i => hd (ρ i)) (encCP (fun i => i) l x) vs := by
  intro l
  induction l with
  | nil =>
    intro cs x vs h hv
    cases cs with
    | nil => cases vs with
      | nil => trivial
      | cons _ _ => exact hv.elim
    | cons _ _ => simp [decCP] at h
  | cons p l ih =>
    intro cs x vs h hv
    cases p with
    | dat t =>
      simp only [decCP] at h
      split at h
      · rename_i a r ha
        split at h
        · rename_i y hy
          simp only [Option.some.injEq] at h
          subst h
          obtain ⟨c, d, rfl, hc, hd'⟩ := decS_ok I hsub L t cs a r vs ha hv
          exact all2.app (enc_ok t a c hc) (ih r y d hy hd')
        · cases h
      · cases h
    | own i =>
      cases cs with
      | nil => simp [decCP] at h
      | cons v cs =>
        cases v <;> (try (simp [decCP] at h; done))
        simp only [decCP] at h
        obtain ⟨hb, h1⟩ := bif_some h
        clear h
        have := Nat.eq_of_beq_eq_true hb
        subst this
        cases vs with
        | nil => exact hv.elim
        | cons u vs => exact ⟨hv.1, ih cs x vs h1 hv.2⟩
    | ptr i =>
      cases cs with
      | nil => simp [decCP] at h
      | cons v cs =>
        cases v <;> (try (simp [decCP] at h; done))
        rename_i j o
        cases o with
        | succ o => simp [decCP] at h
        | zero =>
          simp only [decCP] at h
          obtain ⟨hb, h1⟩ := bif_some h
          clear h
          have := Nat.eq_of_beq_eq_true hb
          subst this
          cases vs with
          | nil => exact hv.elim
          | cons u vs => exact ⟨hv.1, ih cs x vs h1 hv.2⟩
    | fn f =>
      cases cs with
      | nil => simp [decCP] at h
      | cons v cs =>
        cases v <;> (try (simp [decCP] at h; done))
        simp only [decCP] at h
        obtain ⟨hb, h1⟩ := bif_some h
        clear h
        have := isFn_ok hb
        subst this
        cases vs with
        | nil => exact hv.elim
        | cons u vs => exact ⟨hv.1, ih cs x vs h1 hv.2⟩

/-- The same with other names for the objects. -/
theorem encCP_ren {F' : Nat → Prop} {hd0 hd' : Nat → Value} {ρ : Nat → Nat} : ∀ (l : List CP) (x : cpDen l) (vs : List Value), (∀ i, CP.own i ∈ l ∨ CP.ptr i ∈ l → hd0 i = hd' (ρ i)) → all2 (SVRel w F' hd0) (encCP (fun i => i) l x) vs → all2 (SVRel w F' hd') (encCP ρ l x) vs
  | [], _, vs, _, h => by cases vs <;> exact h
  | .dat t :: l, x, vs, hr, h => by
    obtain ⟨c, d, rfl, h1, h2⟩ := all2.split h
    refine all2.app (all2_data t x.1 c h1) (encCP_ren l x.2 d (fun i hi => hr i (by rcases hi with hi | hi; exact .inl (.tail _ hi); exact .inr (.tail _ hi))) h2)
  | .own i :: l, x, [], _, h => h.elim
  | .own i :: l, x, v :: vs, hr, h => by
    obtain ⟨h1, h2⟩ := h
    refine ⟨?_, encCP_ren l x vs (fun i hi => hr i (by rcases hi with hi | hi; exact .inl (.tail _ hi); exact .inr (.tail _ hi))) h2⟩
    have := hr i (.inl (.head _))
    simp only [SVRel] at h1 ⊢
    rw [← this]
    exact h1
  | .ptr i :: l, x, [], _, h => h.elim
  | .ptr i :: l, x, v :: vs, hr, h => by
    obtain ⟨h1, h2⟩ := h
    refine ⟨?_, encCP_ren l x vs (fun i hi => hr i (by rcases hi with hi | hi; exact .inl (.tail _ hi); exact .inr (.tail _ hi))) h2⟩
    have := hr i (.inr (.head _))
    simp only [SVRel] at h1 ⊢
    rw [← this]
    exact h1
  | .fn f :: l, x, [], _, h => h.elim
  | .fn f :: l, x, v :: vs, hr, h => by
    obtain ⟨h1, h2⟩ := h
    exact ⟨h1, encCP_ren l x vs (fun i hi => hr i (by rcases hi with hi | hi; exact .inl (.tail _ hi); exact .inr (.tail _ hi))) h2⟩

theorem decSlots_ok (I : Inv C hd S tmps w) (hsub : Sub lk S) {keep : List Nat} {F' : Nat → Prop} (L : Lets C hd S w keep F') {ρ : Nat → Nat} : ∀ (ps : List Pat) (l : List SS) (x : slotsDen ps) (vs : List Value), decSlots lk keep ρ ps l = some x →
    all2 (SSRel w (C.F hd S) hd) l vs → all2 (SSRel w F' fun i => hd (ρ i)) (encSlots (fun i => i) ps x) vs := by
  intro ps
  induction ps with
  | nil =>
    intro l x vs h hv
    cases l with
    | nil => cases vs with
      | nil => trivial
      | cons _ _ => exact hv.elim
    | cons _ _ => simp [decSlots] at h
  | cons p ps ih =>
    intro l x vs h hv
    cases l with
    | nil => cases p <;> simp [decSlots] at h
    | cons s l =>
      cases vs with
      | nil => exact hv.elim
      | cons v vs =>
        obtain ⟨hs, hl⟩ := hv
        cases p with
        | dead => simp only [decSlots] at h; exact ⟨trivial, ih l x vs h hl⟩
        | one t =>
          cases s with
          | tup _ => simp [decSlots] at h
          | val c =>
            cases c with
            | agg _ => simp [decSlots] at h
            | one sv =>
              simp only [decSlots] at h
              split at h
              · rename_i a b ha hb
                simp only [Option.some.injEq] at h
                subst h
                exact ⟨encOne_ok t a v (decSAll_ok I hsub L ha (vs := [v]) ⟨hs, trivial⟩), ih l b vs hb hl⟩
              · cases h
        | agg t =>
          cases s with
          | tup _ => simp [decSlots] at h
          | val c =>
            cases c with
            | one _ => simp [decSlots] at h
            | agg cs =>
              simp only [decSlots] at h
              split at h
              · rename_i a b ha hb
                simp only [Option.some.injEq] at h
                subst h
                obtain ⟨vs', rfl, hvs'⟩ := hs
                exact ⟨⟨vs', rfl, enc_ok t a _ (decSAll_ok I hsub L ha hvs')⟩, ih l b vs hb hl⟩
              · cases h
        | own i =>
          cases s with
          | tup _ => simp [decSlots] at h
          | val c =>
            cases c with
            | agg _ => simp [decSlots] at h
            | one sv =>
              cases sv <;> (try (simp [decSlots] at h; done))
              rename_i j
              unfold decSlots at h
              obtain ⟨hj, h1⟩ := bif_some h
              clear h
              have := Nat.eq_of_beq_eq_true hj
              subst this
              exact ⟨hs, ih l x vs h1 hl⟩
        | ptr i =>
          cases s with
          | tup _ => simp [decSlots] at h
          | val c =>
            cases c with
            | agg _ => simp [decSlots] at h
            | one sv =>
              cases sv <;> (try (simp [decSlots] at h; done))
              rename_i j o
              cases o with
              | succ o => simp [decSlots] at h
              | zero =>
                unfold decSlots at h
                obtain ⟨hj, h1⟩ := bif_some h
                clear h
                have := Nat.eq_of_beq_eq_true hj
                subst this
                exact ⟨hs, ih l x vs h1 hl⟩
        | mix c =>
          cases s with
          | tup _ => simp [decSlots] at h
          | val cv =>
            cases cv with
            | one _ => simp [decSlots] at h
            | agg cs =>
              simp only [decSlots] at h
              split at h
              · rename_i a b ha hb
                simp only [Option.some.injEq] at h
                subst h
                obtain ⟨vs', rfl, hvs'⟩ := hs
                exact ⟨⟨vs', rfl, decCP_ok I hsub L c cs a _ ha hvs'⟩, ih l b vs hb hl⟩
              · cases h
        | fn f =>
          cases s with
          | tup _ => simp [decSlots] at h
          | val c =>
            cases c with
            | agg _ => simp [decSlots] at h
            | one sv =>
              cases sv <;> (try (simp [decSlots] at h; done))
              simp only [decSlots] at h
              obtain ⟨hj, h1⟩ := bif_some h
              have := isFn_ok hj
              subst this
              exact ⟨hs, ih l x vs h1 hl⟩

theorem nth_rel {Rr : SS → Value → Prop} : ∀ {l : List SS} {m : List Value} (i : Nat), all2 Rr l m → ∀ x, m[i]? = some x → Rr (nth l i) x
  | [], [], _, _, x, hx => by simp at hx
  | _ :: _, _ :: _, 0, hl, x, hx => by simp at hx; subst hx; exact hl.1
  | _ :: _, _ :: _, i + 1, hl, x, hx => nth_rel (l := _) i hl.2 x (by simpa using hx)
  | [], _ :: _, _, hl, _, _ => hl.elim
  | _ :: _, [], _, hl, _, _ => hl.elim

theorem decSp_ok (I : Inv C hd S tmps w) {keep : List Nat} {F' : Nat → Prop} (L : Lets C hd S w keep F') {base : List SS} (hbase : all2 (SSRel w F' hd) base tmps.toList) : ∀ (ps : List (Nat × Pat)) (x : spDen ps), decSp S keep ps = some x →
    all2 (SSRel w F' hd) (encSp ps x base) tmps.toList := by
  intro ps
  induction ps with
  | nil => intro x _; exact hbase
  | cons p ps ih =>
    obtain ⟨k, p⟩ := p
    intro x h
    cases p with
    | dead => simp only [decSp] at h; exact ih x h
    | one t =>
      simp only [decSp] at h
      split at h
      · rename_i v hv
        split at h
        · rename_i a b ha hb
          simp only [Option.some.injEq] at h
          subst h
          refine all2_put_same k (ih b hb) fun y hy => ?_
          have hs := nth_rel k I.slots y hy
          rw [hv] at hs
          exact encOne_ok t a y (decSAll_ok I (Sub.all S) L ha (vs := [y]) ⟨hs, trivial⟩)
        · cases h
      · cases h
    | agg t =>
      simp only [decSp] at h
      split at h
      · rename_i c hc
        split at h
        · rename_i a b ha hb
          simp only [Option.some.injEq] at h
          subst h
          refine all2_put_same k (ih b hb) fun y hy => ?_
          have hs := nth_rel k I.slots y hy
          rw [hc] at hs
          obtain ⟨vs', rfl, hvs'⟩ := hs
          exact ⟨vs', rfl, enc_ok t a _ (decSAll_ok I (Sub.all S) L ha hvs')⟩
        · cases h
      · cases h
    | own i =>
      simp only [decSp] at h
      split at h
      · rename_i j hj
        obtain ⟨he, h1⟩ := bif_some h
        have := Nat.eq_of_beq_eq_true he
        subst this
        refine all2_put_same k (ih x h1) fun y hy => ?_
        have hs := nth_rel k I.slots y hy
        rw [hj] at hs
        exact hs
      · cases h
    | ptr i =>
      simp only [decSp] at h
      split at h
      · rename_i j hj
        obtain ⟨he, h1⟩ := bif_some h
        have := Nat.eq_of_beq_eq_true he
        subst this
        refine all2_put_same k (ih x h1) fun y hy => ?_
        have hs := nth_rel k I.slots y hy
        rw [hj] at hs
        exact hs
      · cases h
    | mix c =>
      simp only [decSp] at h
      split at h
      · rename_i cs hc
        split at h
        · rename_i a b ha hb
          simp only [Option.some.injEq] at h
          subst h
          refine all2_put_same k (ih b hb) fun y hy => ?_
          have hs := nth_rel k I.slots y hy
          rw [hc] at hs
          obtain ⟨vs', rfl, hvs'⟩ := hs
          exact ⟨vs', rfl, decCP_ok I (Sub.all S) L c cs a _ ha hvs'⟩
        · cases h
      · cases h
    | fn f =>
      simp only [decSp] at h
      split at h
      · rename_i v hv
        obtain ⟨hj, h1⟩ := bif_some h
        have := isFn_ok hj
        subst this
        refine all2_put_same k (ih x h1) fun y hy => ?_
        have hs := nth_rel k I.slots y hy
        rw [hv] at hs
        exact hs
      · cases h

theorem all2_deads {F' : Nat → Prop} : ∀ (n : Nat) (m : List Value), m.length = n → all2 (SSRel w F' hd) (List.replicate n .dead) m
  | 0, [], _ => trivial
  | n + 1, _ :: m, h => ⟨trivial, all2_deads n m (by simpa using h)⟩
  | 0, _ :: _, h => by simp at h
  | _ + 1, [], h => by simp at h

theorem contains_iff {l : List Nat} {i : Nat} : l.contains i = true ↔ i ∈ l := by simp

theorem nodupB_ok : ∀ {l : List Nat}, nodupB l = true → l.Nodup
  | [], _ => List.nodup_nil
  | i :: l, h => by
    simp only [nodupB, Bool.and_eq_true, Bool.not_eq_true', ← Bool.not_eq_true, contains_iff] at h
    exact List.nodup_cons.2 ⟨h.1, nodupB_ok h.2⟩

theorem decObjs_mem (hsub : Sub lk S) {keep : List Nat} {ρ : Nat → Nat} : ∀ (os : List (Nat × OPat)) (x : objsDen os), decObjs lk keep ρ os = some x → ∀ i ∈ os.map (·.1), ∃ o, (ρ i, o) ∈ S.objs := by
  intro os
  induction os with
  | nil => intro x _ i hi; simp at hi
  | cons p os ih =>
    obtain ⟨j, p⟩ := p
    intro x h i hi
    simp only [List.map_cons, List.mem_cons] at hi
    cases p with
    | box t =>
      simp only [decObjs] at h
      split at h
      · rename_i cells hlk
        split at h
        · rename_i a b ha hb
          rcases hi with rfl | hi
          · exact ⟨_, look_mem (hsub _ _ hlk)⟩
          · exact ih b hb i hi
        · cases h
      · cases h
    | arr e t =>
      simp only [decObjs] at h
      split at h
      · rename_i e' u m hlk
        obtain ⟨_, h1⟩ := bif_some h
        clear h
        split at h1
        · rename_i a b ha hb
          rcases hi with rfl | hi
          · exact ⟨_, look_mem (hsub _ _ hlk)⟩
          · exact ih b hb i hi
        · cases h1
      · cases h
    | mix c =>
      simp only [decObjs] at h
      split at h
      · rename_i cells hlk
        split at h
        · rename_i a b ha hb
          rcases hi with rfl | hi
          · exact ⟨_, look_mem (hsub _ _ hlk)⟩
          · exact ih b hb i hi
        · cases h
      · cases h
    | clo g c =>
      simp only [decObjs] at h
      split at h
      · rename_i g' cells hlk
        obtain ⟨_, h1⟩ := bif_some h
        clear h
        split at h1
        · rename_i a b ha hb
          rcases hi with rfl | hi
          · exact ⟨_, look_mem (hsub _ _ hlk)⟩
          · exact ih b hb i hi
        · cases h1
      · cases h
    | ifc t q =>
      simp only [decObjs] at h
      split at h
      · rename_i t' j' hlk
        obtain ⟨_, h1⟩ := bif_some h
        rcases hi with rfl | hi
        · exact ⟨_, look_mem (hsub _ _ hlk)⟩
        · exact ih x h1 i hi
      · cases h
    | map mt ka va k v nl =>
      simp only [decObjs] at h
      split at h
      · rename_i mt' ka' va' k' v' m c nl' hlk
        obtain ⟨_, h1⟩ := bif_some h
        clear h
        split at h1
        · rename_i a b ha hb
          rcases hi with rfl | hi
          · exact ⟨_, look_mem (hsub _ _ hlk)⟩
          · exact ih b hb i hi
        · cases h1
      · cases h
    | iter m =>
      simp only [decObjs] at h
      split at h
      · rename_i m' sn seen hlk
        obtain ⟨_, h1⟩ := bif_some h
        clear h
        split at h1
        · rename_i b hb
          rcases hi with rfl | hi
          · exact ⟨_, look_mem (hsub _ _ hlk)⟩
          · exact ih b hb i hi
        · cases h1
      · cases h

theorem ids_encObjs {ρ : Nat → Nat} : ∀ (os : List (Nat × OPat)) (x : objsDen os), (encObjs ρ os x).map (·.1) = os.map fun p => ρ p.1
  | [], _ => rfl
  | (_, .box _) :: l, x => by simp [encObjs, ids_encObjs l x.2]
  | (_, .arr _ _) :: l, x => by simp [encObjs, ids_encObjs l x.2]
  | (_, .mix _) :: l, x => by simp [encObjs, ids_encObjs l x.2]
  | (_, .clo _ _) :: l, x => by simp [encObjs, ids_encObjs l x.2]
  | (_, .ifc _ _) :: l, x => by simp [encObjs, ids_encObjs l x]
  | (_, .map _ _ _ _ _ _) :: l, x => by simp [encObjs, ids_encObjs l x.2]
  | (_, .iter _) :: l, x => by simp [encObjs, ids_encObjs l x.2]

theorem castM_ok {k v k' v' : Ty} {l : List (Nat × (k.den × v.den))} {m : List (Nat × (k'.den × v'.den))} (h : castM k v k' v' l = some m) : ∃ (e : k = k') (e' : v = v'), e ▸ e' ▸ l = m := by
  unfold castM at h
  split at h
  · rename_i e; exact ⟨e.1, e.2, by simpa using h⟩
  · cases h

theorem decObjs_ok (I : Inv C hd S tmps w) (hsub : Sub lk S) {keep : List Nat} {F' : Nat → Prop} (L : Lets C hd S w keep F') {ρ : Nat → Nat} : ∀ (os : List (Nat × OPat)) (x : objsDen os), decObjs lk keep ρ os = some x →
    ∀ p ∈ encObjs (fun i => i) os x, ObRel w F' (fun i => hd (ρ i)) (hd (ρ p.1)) p.2 := by
  intro os
  induction os with
  | nil => intro x _ p hp; simp [encObjs] at hp
  | cons p os ih =>
    obtain ⟨j, p⟩ := p
    intro x h q hq
    cases p with
    | box t =>
      simp only [decObjs] at h
      split at h
      · rename_i cells hlk
        split at h
        · rename_i a b ha hb
          simp only [Option.some.injEq] at h
          subst h
          simp only [encObjs, List.mem_cons] at hq
          rcases hq with rfl | hq
          · obtain ⟨g, cur, e, hv, hg, hl⟩ := I.objs _ (look_mem (hsub _ _ hlk))
            exact ⟨g, cur, e, hv, hg, enc_ok t a _ (decSAll_ok I hsub L ha hl)⟩
          · exact ih b hb q hq
        · cases h
      · cases h
    | arr e t =>
      simp only [decObjs] at h
      split at h
      · rename_i e' u m hlk
        obtain ⟨he, h1⟩ := bif_some h
        clear h
        have he := Nat.eq_of_beq_eq_true he
        subst he
        split at h1
        · rename_i a b ha hb
          simp only [Option.some.injEq] at h1
          subst h1
          simp only [encObjs, List.mem_cons] at hq
          rcases hq with rfl | hq
          · obtain ⟨rfl, hc⟩ := castL_eq ha
            simp only at hc
            subst hc
            obtain ⟨xs, ho, hr⟩ := I.objs _ (look_mem (hsub _ _ hlk))
            exact ⟨xs, ho, rows.mono (u.cells_keep L.keeps) hr⟩
          · exact ih b hb q hq
        · cases h1
      · cases h
    | mix c =>
      simp only [decObjs] at h
      split at h
      · rename_i cells hlk
        split at h
        · rename_i a b ha hb
          simp only [Option.some.injEq] at h
          subst h
          simp only [encObjs, List.mem_cons] at hq
          rcases hq with rfl | hq
          · obtain ⟨g, cur, e, hv, hg, hl⟩ := I.objs _ (look_mem (hsub _ _ hlk))
            exact ⟨g, cur, e, hv, hg, decCP_ok I hsub L c cells a _ ha hl⟩
          · exact ih b hb q hq
        · cases h
      · cases h
    | clo g c =>
      simp only [decObjs] at h
      split at h
      · rename_i g' cells hlk
        obtain ⟨he, h1⟩ := bif_some h
        clear h
        have he := Nat.eq_of_beq_eq_true he
        subst he
        split at h1
        · rename_i a b ha hb
          simp only [Option.some.injEq] at h1
          subst h1
          simp only [encObjs, List.mem_cons] at hq
          rcases hq with rfl | hq
          · obtain ⟨cs, hv, hl⟩ := I.objs _ (look_mem (hsub _ _ hlk))
            exact ⟨cs, hv, decCP_ok I hsub L c cells a _ ha hl⟩
          · exact ih b hb q hq
        · cases h1
      · cases h
    | ifc t i =>
      simp only [decObjs] at h
      split at h
      · rename_i t' j' hlk
        obtain ⟨he, h1⟩ := bif_some h
        simp only [Bool.and_eq_true] at he
        have e1 := Nat.eq_of_beq_eq_true he.1
        have e2 := Nat.eq_of_beq_eq_true he.2
        subst e1; subst e2
        simp only [encObjs, List.mem_cons] at hq
        rcases hq with rfl | hq
        · obtain ⟨y, hv, hs⟩ := I.objs _ (look_mem (hsub _ _ hlk))
          exact ⟨y, hv, hs⟩
        · exact ih x h1 q hq
      · cases h
    | map mt ka va k v nl =>
      simp only [decObjs] at h
      split at h
      · rename_i mt' ka' va' k' v' m c nl' hlk
        obtain ⟨he, h1⟩ := bif_some h
        clear h
        simp only [Bool.and_eq_true, beq_iff_eq, Bool.or_eq_true, Bool.not_eq_true'] at he
        obtain ⟨⟨⟨e1, rfl⟩, rfl⟩, hnl⟩ := he
        have e1 := Nat.eq_of_beq_eq_true e1
        subst e1
        split at h1
        · rename_i a b ha hb
          simp only [Option.some.injEq] at h1
          subst h1
          simp only [encObjs, List.mem_cons] at hq
          rcases hq with rfl | hq
          · obtain ⟨rfl, rfl, hc⟩ := castM_ok ha
            simp only at hc
            subst hc
            have := map_keep (hd' := fun i => hd (ρ i)) L.keeps (fun _ _ => rfl) (I.objs _ (look_mem (hsub _ _ hlk)))
            rcases this with ⟨h1, h2⟩ | h2
            · refine .inl ⟨?_, h2⟩
              rcases hnl with hnl | hnl
              · rw [hnl] at h1; cases h1
              · exact hnl
            · exact .inr h2
          · exact ih b hb q hq
        · cases h1
      · cases h
    | iter m =>
      simp only [decObjs] at h
      split at h
      · rename_i m' sn seen hlk
        obtain ⟨he, h1⟩ := bif_some h
        clear h
        have he := Nat.eq_of_beq_eq_true he
        subst he
        split at h1
        · rename_i b hb
          simp only [Option.some.injEq] at h1
          subst h1
          simp only [encObjs, List.mem_cons] at hq
          rcases hq with rfl | hq
          · exact I.objs _ (look_mem (hsub _ _ hlk))
          · exact ih b hb q hq
        · cases h1
      · cases h

theorem Tmpl.dec_ok (I : Inv C hd S tmps w) (T : Tmpl) {x : T.den} (h : T.dec S = some x) : Inv C hd (T.enc x) tmps w := by
  unfold Tmpl.dec at h
  obtain ⟨hn, h1⟩ := bif_some h
  clear h
  simp only [Bool.and_eq_true] at hn
  obtain ⟨⟨hn, hlen⟩, hpin⟩ := hn
  have hlen := Nat.eq_of_beq_eq_true hlen
  split at h1
  · rename_i a b ha hb
    simp only [Option.some.injEq] at h1
    subst h1
    have hmem := decObjs_mem (Sub.all S) T.objs b hb
    have hids : (encObjs (fun i => i) T.objs b).map (·.1) = T.objs.map (·.1) := ids_encObjs (ρ := fun i => i) T.objs b
    have hin : ∀ p ∈ encObjs (fun i => i) T.objs b, p.1 ∈ T.ids := by
      intro p hp
      unfold Tmpl.ids
      rw [← hids]
      exact List.mem_map.2 ⟨p, hp, rfl⟩
    have L : Lets C hd S w T.ids (forb C.E hd (encObjs (fun i => i) T.objs b)) := by
      constructor
      · rintro q _ (h | ⟨p, hp, hpb⟩)
        · exact .inl h
        · obtain ⟨o, ho⟩ := hmem p.1 (hin p hp)
          exact .inr ⟨(p.1, o), ho, hpb⟩
      · rintro i o hio hni q hq (h | ⟨p, hp, hpb⟩)
        · have := C.small q h
          rcases I.place _ hio q hq with h' | h'
          · omega
          · exact this.2 h'
        · obtain ⟨o', ho'⟩ := hmem p.1 (hin p hp)
          exact I.apart (p.1, o') ho' (i, o) hio (fun e => hni (by have e : p.1 = i := e; rw [← e]; exact hin p hp)) q hpb hq
    refine ⟨decSp_ok I L (all2_deads T.n _ (by rw [← hlen]; exact I.slots.len.symm)) T.slots a ha, decObjs_ok I (Sub.all S) L T.objs b hb, ?_, ?_, ?_, I.still, fun i hi => I.pins i (memN_mem (List.all_eq_true.1 hpin i hi))⟩
    · show ((encObjs (fun i => i) T.objs b).map (·.1)).Nodup
      rw [hids]
      exact nodupB_ok hn
    · intro p hp q hq hne c hpc hqc
      obtain ⟨o, ho⟩ := hmem p.1 (hin p hp)
      obtain ⟨o', ho'⟩ := hmem q.1 (hin q hq)
      exact I.apart (p.1, o) ho (q.1, o') ho' hne c hpc hqc
    · intro p hp c hpc
      obtain ⟨o, ho⟩ := hmem p.1 (hin p hp)
      exact I.place (p.1, o) ho c hpc
  · cases h1

/-- Object j becomes object i. -/
def St.move (i j : Nat) (o : Ob) (S : St) : St := ⟨killSlots i (killSlots j (killSlots i S.slots)), (i, o) :: killObjs i (killObjs j (killObjs i S.objs)), killPins i (killPins j (killPins i S.pins))⟩

theorem Inv.move (I : Inv C hd S tmps w) (i j : Nat) (o : Ob) (v : Value) (hblk : ∀ b, blk v = some b → Lies hd S j b)
    (hob : ∀ F', Keeps w w (C.F hd S) F' → ObRel w F' (upd hd i v) v o) :
    Inv C (upd hd i v) (S.move i j o) tmps w ∧ Keeps w w (C.F hd S) (C.F (upd hd i v) (S.move i j o)) := by
  have hh : ∀ k, k ≠ i → upd hd i v k = hd k := fun k hk => upd_ne v hk
  have k0 : Keeps w w (C.F hd S) (C.F hd S) := Keeps.refl w _
  have hmem : ∀ p ∈ killObjs i (killObjs j (killObjs i S.objs)), p.1 ≠ i ∧ p.1 ≠ j ∧ ∃ q, (p.1, q) ∈ S.objs ∧ p.2 = ((q.killed i).killed j).killed i := by
    intro p hp
    obtain ⟨h1, o1, m1, e1⟩ := mem_killObjs hp
    obtain ⟨h2, o2, m2, e2⟩ := mem_killObjs m1
    obtain ⟨_, o3, m3, e3⟩ := mem_killObjs m2
    simp only at h2 m3 e2 e3
    exact ⟨h1, h2, o3, m3, by rw [e1, e2, e3]⟩
  have hF : ∀ b, b < w.heap.size → C.F (upd hd i v) (S.move i j o) b → C.F hd S b := by
    intro b _ h
    rcases h with h | ⟨p, hp, hpb⟩
    · exact .inl h
    · simp only [St.move, List.mem_cons] at hp
      rcases hp with rfl | hp
      · simp only [upd_same] at hpb
        exact Inv.lies_F (C := C) j b (hblk b hpb)
      · obtain ⟨h1, _, q, hq, _⟩ := hmem p hp
        rw [hh _ h1] at hpb
        exact .inr ⟨_, hq, hpb⟩
  have k : Keeps w w (C.F hd S) (C.F (upd hd i v) (S.move i j o)) := ⟨fun _ _ _ => rfl, hF⟩
  have hapart : ∀ p ∈ killObjs i (killObjs j (killObjs i S.objs)), ∀ b, blk (hd p.1) = some b → blk v = some b → False := by
    intro p hp b hpb hvb
    obtain ⟨_, h2, q, hq, _⟩ := hmem p hp
    obtain ⟨⟨o', ho'⟩, hb'⟩ := hblk b hvb
    exact I.apart _ hq (j, o') ho' h2 b hpb hb'
  refine ⟨⟨all2_killSlots k i hh (all2_killSlots k0 j (fun _ _ => rfl) (all2_killSlots k0 i (fun _ _ => rfl) I.slots)), ?_, ?_, ?_, ?_, I.still, fun n hn => by
    obtain ⟨h1, h2⟩ := mem_killPins hn
    rw [hh n h1]
    exact I.pins n (mem_killPins (mem_killPins h2).2).2⟩, k⟩
  · intro p hp
    simp only [St.move, List.mem_cons] at hp
    rcases hp with rfl | hp
    · simp only [upd_same]; exact hob _ k
    · obtain ⟨h1, _, q, hq, he⟩ := hmem p hp
      rw [he, hh _ h1]
      exact ObRel.kill k i hh (fun _ _ => rfl) (ObRel.kill k0 j (fun _ _ => rfl) (fun _ _ => rfl) (ObRel.kill k0 i (fun _ _ => rfl) (fun _ _ => rfl) (I.objs _ hq)))
  · simp only [St.move, List.map_cons, List.nodup_cons]
    refine ⟨fun h => ?_, List.Sublist.nodup (((ids_killObjs i _).trans (ids_killObjs j _)).trans (ids_killObjs i _)) I.nodup⟩
    obtain ⟨p, hp, he⟩ := List.mem_map.1 h
    exact (hmem p hp).1 he
  · intro p hp q hq hne b hpb hqb
    simp only [St.move, List.mem_cons] at hp hq
    rcases hp with rfl | hp <;> rcases hq with rfl | hq
    · exact hne rfl
    · simp only [upd_same] at hpb; rw [hh _ (hmem q hq).1] at hqb; exact hapart q hq b hqb hpb
    · simp only [upd_same] at hqb; rw [hh _ (hmem p hp).1] at hpb; exact hapart p hp b hpb hqb
    · rw [hh _ (hmem p hp).1] at hpb
      rw [hh _ (hmem q hq).1] at hqb
      obtain ⟨_, _, o1, m1, _⟩ := hmem p hp
      obtain ⟨_, _, o2, m2, _⟩ := hmem q hq
      exact I.apart _ m1 _ m2 hne b hpb hqb
  · intro p hp b hpb
    simp only [St.move, List.mem_cons] at hp
    rcases hp with rfl | hp
    · simp only [upd_same] at hpb
      obtain ⟨⟨o', ho'⟩, hb'⟩ := hblk b hpb
      exact I.place _ ho' b hb'
    · obtain ⟨h1, _, q, hq, _⟩ := hmem p hp
      rw [hh _ h1] at hpb
      exact I.place _ hq b hpb

/-- Slot s is made to hold object i as a list of its own: out of none, out of another object, out of the head of one. -/
def prep1 (S : St) (s i : Nat) (e : TypeId) (t : Ty) : St :=
  match nth S.slots s with
  | .val (.one (.at (.slice none 0 0))) => let S1 := S.renew i (.arr e t []); { S1 with slots := put S1.slots s (.one (.own i)) }
  | .val (.one (.own j)) => bif Nat.beq j i then S else
    match look S.objs j with
    | some (.arr e' t' l) => let S1 := S.move i j (.arr e' t' l); { S1 with slots := put S1.slots s (.one (.own i)) }
    | _ => S
  | .val (.one (.vw j n 0 len)) => match look S.objs j with
    | some (.arr e' t' l) => bif Nat.beq n t'.nc then (let S1 := S.move i j (.arr e' t' (l.take len)); { S1 with slots := put S1.slots s (.one (.own i)) }) else S
    | _ => S
  | _ => S

def prep : List (Nat × Nat × TypeId × Ty) → St → St
  | [], S => S
  | (s, i, e, t) :: ps, S => prep ps (prep1 S s i e t)

theorem own_rel {F' : Nat → Prop} {e : TypeId} {t : Ty} {l : List t.den} {hd' : Nat → Value} {i : Nat} {v : Value} (h : ObRel w F' hd' v (.arr e t l)) (hi : hd' i = v) : SSRel w F' hd' (.one (.own i)) v := by
  obtain ⟨xs, ho, _⟩ := h
  refine ⟨hi.symm, ?_⟩
  rcases ho.2 with ⟨rfl, _⟩ | ⟨g, cap, cur, rfl, _⟩
  · rfl
  · rfl

theorem all2_nth_val {Rr : SS → Value → Prop} {c : SV} (hc : c ≠ .dead) : ∀ {l : List SS} {m : List Value} (i : Nat), all2 Rr l m → nth l i = .val (.one c) → ∃ x, m[i]? = some x ∧ Rr (.val (.one c)) x
  | [], [], _, _, hn => by simp only [nth, SS.dead, SS.val.injEq, Cv.one.injEq] at hn; exact absurd hn.symm hc
  | s :: _, x :: _, 0, hl, hn => by simp only [nth] at hn; subst hn; exact ⟨x, rfl, hl.1⟩
  | _ :: _, _ :: _, i + 1, hl, hn => by obtain ⟨x, h1, h2⟩ := all2_nth_val hc i hl.2 (by simpa [nth] using hn); exact ⟨x, by simpa using h1, h2⟩
  | [], _ :: _, _, hl, _ => hl.elim
  | _ :: _, [], _, hl, _ => hl.elim

theorem prep1_ok (I : Inv C hd S tmps w) (s i : Nat) (e : TypeId) (t : Ty) : ∃ hd', Inv C hd' (prep1 S s i e t) tmps w := by
  unfold prep1
  split
  · rename_i hn
    obtain ⟨x, hx, hr⟩ := all2_nth_val (by simp) s I.slots hn
    have hr : x = .slice none 0 0 := hr
    subst hr
    obtain ⟨I', _⟩ := I.renew (w' := w) i (.arr e t []) (.slice none 0 0) (On.refl w) (fun b hb => by simp [blk] at hb) (fun _ _ _ => rfl)
      (fun F' k => ⟨[], World.ownsRow_nil _ _ _ _, rfl⟩)
    refine ⟨_, I'.reslot s ?_⟩
    intro y hy
    rw [hx] at hy
    simp only [Option.some.injEq] at hy
    subst hy
    exact ⟨(upd_same _ _ _).symm, rfl⟩
  · rename_i j hn
    cases hj : Nat.beq j i with
    | true => exact ⟨hd, I⟩
    | false =>
      simp only [cond_false]
      split
      · rename_i e' t' l hlk
        obtain ⟨x, hx, hr⟩ := all2_nth_val (by simp) s I.slots hn
        obtain ⟨hr, _⟩ := hr
        subst hr
        have hm := look_mem hlk
        obtain ⟨I', _⟩ := I.move i j (.arr e' t' l) (hd j) (fun b hb => ⟨⟨_, hm⟩, hb⟩) (fun F' k => by
          obtain ⟨xs, ho, hr⟩ := I.objs _ hm
          exact ⟨xs, ho, rows.mono (t'.cells_keep k) hr⟩)
        refine ⟨_, I'.reslot s ?_⟩
        intro y hy
        rw [hx] at hy
        simp only [Option.some.injEq] at hy
        subst hy
        have h := I'.objs (i, Ob.arr e' t' l) (.head _)
        simp only [upd_same] at h
        exact own_rel h (upd_same _ _ _)
      · exact ⟨hd, I⟩
  · rename_i j n len hn
    split
    · rename_i e' t' l hlk
      cases hb : Nat.beq n t'.nc with
      | false => exact ⟨hd, I⟩
      | true =>
        simp only [cond_true]
        have hnc := Nat.eq_of_beq_eq_true hb
        subst hnc
        obtain ⟨x, hx, hr⟩ := all2_nth_val (by simp) s I.slots hn
        have hm := look_mem hlk
        obtain ⟨xs, ho, hrow⟩ := I.objs _ hm
        simp only at ho hrow
        -- the head of the list, as a list of its own
        have hown : w.ownsRow 0 e' t'.nc x (l.take len).length (xs.take (len * t'.nc)) ∧ ∀ b, blk x = some b → blk (hd j) = some b := by
          rcases hr with ⟨h2, rfl, _, rfl⟩ | ⟨b, o, L, C', cap, h2, rfl, hle, hoL, _, h0⟩
          · exact ⟨by simpa using World.ownsRow_nil w 0 e' t'.nc, by simp [blk]⟩
          · obtain ⟨rfl, rfl⟩ := h0 rfl
            rcases ho.2 with ⟨h3, _⟩ | ⟨g, cap', cur, h3, h4, h5, h6, h7, h8, h9⟩
            · rw [h2] at h3; cases h3
            · rw [h2] at h3
              simp only [Value.slice.injEq, Option.some.injEq, Addr.mk.injEq, and_true] at h3
              obtain ⟨rfl, rfl, rfl⟩ := h3
              have hlen : (l.take len).length = len := by rw [List.length_take]; omega
              refine ⟨?_, fun b' hb' => by rw [h2]; exact hb'⟩
              rw [hlen]
              refine ⟨?_, .inr ⟨b, cap, cur, rfl, h4, h5, hle, h7, h8, ?_⟩⟩
              · rw [List.length_take, ho.1]
                exact Nat.min_eq_left (Nat.mul_le_mul_right _ (by omega))
              · rw [← h9, List.take_take]
                congr 1
                exact (Nat.min_eq_left (Nat.mul_le_mul_right _ (by omega))).symm
        obtain ⟨I', _⟩ := I.move i j (.arr e' t' (l.take len)) x (fun b hb => ⟨⟨_, hm⟩, hown.2 b hb⟩) (fun F' k => ⟨_, hown.1, rows.mono (t'.cells_keep k) (rows.take t'.cells_len len hrow)⟩)
        refine ⟨_, I'.reslot s ?_⟩
        intro y hy
        rw [hx] at hy
        simp only [Option.some.injEq] at hy
        subst hy
        have h := I'.objs (i, Ob.arr e' t' (l.take len)) (.head _)
        simp only [upd_same] at h
        exact own_rel h (upd_same _ _ _)
    · exact ⟨hd, I⟩
  · exact ⟨hd, I⟩

theorem prep_ok : ∀ (ps : List (Nat × Nat × TypeId × Ty)) {hd : Nat → Value} {S : St}, Inv C hd S tmps w → ∃ hd', Inv C hd' (prep ps S) tmps w
  | [], hd, _, I => ⟨hd, I⟩
  | (s, i, e, t) :: ps, _, _, I => by
    obtain ⟨hd', I'⟩ := prep1_ok I s i e t
    exact prep_ok ps I'

end
end Go.Sh
