/-
  Loops and contracts over the shadow evaluator. No project text.
-/
import Derived.Test.YtpjfaodemfjfjaaShFun
namespace Go.Sh

abbrev Preps := List (Nat × Nat × TypeId × Ty)

/-- The ways out of a piece of code, each with the state's shape there. -/
structure Out where
  exit : SExit
  prep : Preps := []
  T : Tmpl

@[reducible] def xDen : List Out → Type
  | [] => Empty
  | [x] => x.T.den
  | x :: y :: l => Sum x.T.den (xDen (y :: l))

def sameExit : SExit → SExit → Bool
  | .normal, .normal => true
  | .exit i, .exit j => Nat.beq i j
  | .ret, .ret => true
  | _, _ => false

def xDec : (X : List Out) → SExit → St → Option (xDen X)
  | [], _, _ => none
  | [x], e, S => bif sameExit x.exit e then x.T.dec (prep x.prep S) else none
  | x :: y :: l, e, S => bif sameExit x.exit e then
      (match x.T.dec (prep x.prep S) with
       | some a => some (.inl a)
       | none => match xDec (y :: l) e S with
         | some b => some (.inr b)
         | none => none)
    else match xDec (y :: l) e S with
      | some b => some (.inr b)
      | none => none

def xRun {R : Type} : (X : List Out) → xDen X → (SExit → St → Option R) → Option R
  | [], _, _ => none
  | [x], a, κ => κ x.exit (x.T.enc a)
  | x :: y :: l, z, κ => match z with
    | .inl a => κ x.exit (x.T.enc a)
    | .inr b => xRun (y :: l) b κ

structure Spec where
  T : Tmpl
  prep : Preps := []
  X : List Out

def piece {R : Type} (s : Spec) (l : s.T.den → Option (xDen s.X)) (S : St) (κ : SExit → St → Option R) : Option R :=
  match s.T.dec (prep s.prep S) with
  | some x => (l x).bind fun y => xRun s.X y κ
  | none => none

/-- What goes on behind a round. -/
def again (s : Spec) (l : s.T.den → Option (xDen s.X)) : SExit → St → Option (xDen s.X)
  | .normal, S => match s.T.dec (prep s.prep S) with
    | some x => l x
    | none => none
  | e, S => xDec s.X e S

section
variable {C : Ctx} {hd : Nat → Value} {S : St} {tmps : Array Value} {w : World} {ds : List Deferred}

theorem sameExit_ok {a b : SExit} (h : sameExit a b = true) : a = b := by
  cases a <;> cases b <;> simp [sameExit] at h <;> first | rfl | (subst h; rfl) | (rw [Nat.eq_of_beq_eq_true h])

theorem xDec_ok : ∀ (X : List Out) {hd : Nat → Value} {S : St} {e : SExit} {y : xDen X}, Inv C hd S tmps w → xDec X e S = some y →
    ∃ hd' S', Inv C hd' S' tmps w ∧ ∀ {R : Type} (κ : SExit → St → Option R) (r : R), xRun X y κ = some r → κ e S' = some r := by
  intro X
  induction X with
  | nil => intro hd S e y I h; cases h
  | cons x X ih =>
    intro hd S e y I h
    cases X with
    | nil =>
      simp only [xDec] at h
      obtain ⟨he, h2⟩ := bif_some h
      clear h
      have he := sameExit_ok he
      subst he
      obtain ⟨hd1, I1⟩ := prep_ok x.prep I
      exact ⟨hd1, _, x.T.dec_ok I1 h2, fun κ r hk => hk⟩
    | cons x2 X =>
      have rest : ∀ {z : xDen (x :: x2 :: X)}, (match xDec (x2 :: X) e S with | some b => some (Sum.inr b : xDen (x :: x2 :: X)) | none => none) = some z →
          ∃ hd' S', Inv C hd' S' tmps w ∧ ∀ {R : Type} (κ : SExit → St → Option R) (r : R), xRun (x :: x2 :: X) z κ = some r → κ e S' = some r := by
        intro z h
        split at h
        · rename_i b hb
          simp only [Option.some.injEq] at h
          subst h
          exact ih I hb
        · cases h
      simp only [xDec] at h
      cases hs : sameExit x.exit e with
      | false => rw [hs] at h; exact rest h
      | true =>
        rw [hs] at h
        simp only [cond_true] at h
        split at h
        · rename_i a ha
          simp only [Option.some.injEq] at h
          subst h
          have he := sameExit_ok hs
          subst he
          obtain ⟨hd1, I1⟩ := prep_ok x.prep I
          exact ⟨hd1, _, x.T.dec_ok I1 ha, fun κ r hk => hk⟩
        · exact rest h

/-- Behind a piece: whatever goes on there from the state that the answer says, goes on. -/
def Left (C : Ctx) (ds : List Deferred) (X : List Out) (y : xDen X) (e : Exit) (a : Act) (w : World) : Prop :=
  ∃ x hd S, e = x.real ∧ a.defers = ds ∧ Inv C hd S a.tmps w ∧ ∀ {R : Type} (κ : SExit → St → Option R) (r : R), xRun X y κ = some r → κ x S = some r

theorem Left.after {X : List Out} {y : xDen X} {R : Type} {κ : SExit → St → Option R} {r : R} (hk : xRun X y κ = some r) {e : Exit} {a : Act} (h : Left C ds X y e a w) : After C ds κ r e a w := by
  obtain ⟨x, hd, S, he, hds, I, hr⟩ := h
  exact ⟨x, hd, S, he, hr κ r hk, hds, I⟩

theorem loop_ok {s : Spec} {E : Sums (xDen s.X)} (hE : ∀ f g, E f = some g → SumOk C f g) (hQ : ∀ f g, E f = some g → DetSum g) {L : Pieces (xDen s.X)} {code body : Code} (hcode : code = .loop body) (hL : ∀ p g, L p = some g → PieceOk C (codeAt body p) g)
    {l : Nat → s.T.den → Option (xDen s.X)} (h0 : ∀ x, l 0 x = none) (hs : ∀ k x, l (k + 1) x = sh C.P E L body [] (s.T.enc x) (again s (l k))) :
    ∀ (k : Nat) {R : Type}, PieceOk C code (piece (R := R) s (l k)) := by
  subst hcode
  have key : ∀ (k : Nat) (ds : List Deferred) (x : s.T.den) (y : xDen s.X) (hd : Nat → Value) (tmps : Array Value) (w : World), l k x = some y → Inv C hd (s.T.enc x) tmps w →
      loopWp C.P body (Left C ds s.X y) { tmps, defers := ds } w := by
    intro k
    induction k with
    | zero => intro ds x y hd tmps w h; rw [h0] at h; cases h
    | succ k ih =>
      intro ds x y hd tmps w h I
      rw [hs] at h
      refine loopWp.round (wp_mono (sh_wp hE hQ body hL (ds := ds) body rfl I h) ?_)
      rintro e ⟨tmps', ds'⟩ w' ⟨ex, hd', S', rfl, hk, hds, I'⟩
      simp only at hds
      subst hds
      cases ex with
      | normal =>
        simp only [again] at hk
        split at hk
        · rename_i x2 hx2
          obtain ⟨hd1, I1⟩ := prep_ok s.prep I'
          exact ih ds' x2 y hd1 tmps' w' hk (s.T.dec_ok I1 hx2)
        · cases hk
      | exit i =>
        obtain ⟨hd1, S1, I1, hr⟩ := xDec_ok s.X I' hk
        exact ⟨.exit i, hd1, S1, rfl, rfl, I1, hr⟩
      | ret =>
        obtain ⟨hd1, S1, I1, hr⟩ := xDec_ok s.X I' hk
        exact ⟨.ret, hd1, S1, rfl, rfl, I1, hr⟩
  intro k R hd S tmps w ds κ r I h
  unfold piece at h
  split at h
  · rename_i x hx
    rw [Option.bind_eq_some_iff] at h
    obtain ⟨y, hy, hk⟩ := h
    obtain ⟨hd1, I1⟩ := prep_ok s.prep I
    exact wp_mono (loopWp.wp (key k ds x y hd1 tmps w hy (s.T.dec_ok I1 hx))) fun e a w hl => hl.after hk
  · cases h

/-- A piece of code that is taken once. -/
theorem once_ok {s : Spec} {E : Sums (xDen s.X)} (hE : ∀ f g, E f = some g → SumOk C f g) (hQ : ∀ f g, E f = some g → DetSum g) {L : Pieces (xDen s.X)} {code : Code} (hL : ∀ p g, L p = some g → PieceOk C (codeAt code p) g)
    {l : s.T.den → Option (xDen s.X)} (hs : ∀ x, l x = sh C.P E L code [] (s.T.enc x) (xDec s.X)) {R : Type} : PieceOk C code (piece (R := R) s l) := by
  intro hd S tmps w ds κ r I h
  unfold piece at h
  split at h
  · rename_i x hx
    rw [Option.bind_eq_some_iff] at h
    obtain ⟨y, hy, hk⟩ := h
    obtain ⟨hd1, I1⟩ := prep_ok s.prep I
    rw [hs] at hy
    refine wp_mono (sh_wp hE hQ code hL (ds := ds) code rfl (s.T.dec_ok I1 hx) hy) ?_
    rintro e ⟨tmps', ds'⟩ w' ⟨ex, hd', S', rfl, hk', hds, I'⟩
    obtain ⟨hd2, S2, I2, hr⟩ := xDec_ok s.X I' hk'
    exact ⟨ex, hd2, S2, rfl, hr κ r hk, hds, I2⟩
  · cases h

end

/- Contracts. -/

inductive RPat where
  | one (t : Ty)
  | agg (t : Ty)
  | own (e : TypeId) (t : Ty)

@[reducible] def resDen : List RPat → Type
  | [] => Unit
  | .one t :: l => t.den × resDen l
  | .agg t :: l => t.den × resDen l
  | .own _ t :: l => List t.den × resDen l

def RPat.flat : RPat → Bool
  | .one t | .agg t | .own _ t => t.flat

def RPat.owns : RPat → Nat
  | .own _ _ => 1
  | _ => 0

def resFlat : List RPat → Bool
  | [] => true
  | r :: l => r.flat && resFlat l

def resOwns : List RPat → Nat
  | [] => 0
  | r :: l => r.owns + resOwns l

def resCvs (d : Nat) : (rs : List RPat) → resDen rs → List Cv
  | [], _ => []
  | .one t :: l, y => .one (encOne t y.1) :: resCvs d l y.2
  | .agg t :: l, y => .agg (enc t y.1) :: resCvs d l y.2
  | .own _ _ :: l, y => .one (.own d) :: resCvs d l y.2

def resEf (d : Nat) : (rs : List RPat) → resDen rs → List Ef
  | [], _ => []
  | .one _ :: l, y => resEf d l y.2
  | .agg _ :: l, y => resEf d l y.2
  | .own e t :: l, y => .renew d (.arr e t y.1) :: resEf d l y.2

def packCvs : List Cv → SS
  | [c] => .val c
  | l => .tup l

def pack : List Value → Value
  | [v] => v
  | l => .tuple l.toArray

def resRel (B : Nat) (w : World) (G : Nat → Prop) : (rs : List RPat) → resDen rs → List Value → Prop
  | [], _, vs => vs = []
  | .one t :: l, y, vs => ∃ v r, vs = v :: r ∧ t.cells w G y.1 [v] ∧ resRel B w G l y.2 r
  | .agg t :: l, y, vs => ∃ cs r, vs = .agg cs :: r ∧ t.cells w G y.1 cs.toList ∧ resRel B w G l y.2 r
  | .own e t :: l, y, vs => ∃ v r xs, vs = v :: r ∧ w.ownsRow B e t.nc v y.1.length xs ∧ rows (t.cells w G) y.1 xs ∧ (∀ b, blk v = some b → G b) ∧ resRel B w G l y.2 r

/-- The function does what the Lean function says. -/
def Con (P : Program) (f : FuncId) (args : List Pat) (res : List RPat) (Fn : slotsDen args → Option (resDen res)) : Prop :=
  ∀ (w : World) (F : Nat → Prop) (hd : Nat → Value) (x : slotsDen args) (y : resDen res) (vals : List Value), (∀ b, F b → b < w.heap.size) →
    all2 (SSRel w F hd) (encSlots args x) vals → Fn x = some y →
    Calls P f vals.toArray w fun e w' => ∃ vs G, e = .returned (pack vs) ∧ (∀ b, F b → G b) ∧ resRel w.heap.size w' G res y vs ∧ RowKit.Below w.heap.size w w'

/-- Lists of the call's own that are handed on. -/
def ownRefs : List SV → List Nat
  | [] => []
  | .own i :: l => i :: ownRefs l
  | .vw i _ _ _ :: l => i :: ownRefs l
  | _ :: l => ownRefs l

def ssOwns : List SS → List Nat
  | [] => []
  | .val (.one v) :: l => ownRefs [v] ++ ssOwns l
  | .val (.agg c) :: l => ownRefs c ++ ssOwns l
  | .tup _ :: l => ssOwns l

def dropEf : List Nat → List Ef
  | [] => []
  | i :: l => .drop i :: dropEf l

/-- All of a are in b. -/
def disjN (a b : List Nat) : Bool := a.all fun i => memN i b

/-- What a call of such a function is to the evaluator. -/
def conSum {R : Type} (args : List Pat) (res : List RPat) (Fn : slotsDen args → Option (resDen res)) (d : Nat) (as : List SS) (lk : Lk) (κ : SS → List Ef → Option R) : Option R :=
  match Nat.ble (resOwns res) 1, resFlat res with
  | true, true => match decSlots lk [] args as with
    | some x => (Fn x).bind fun y => κ (packCvs (resCvs d res y)) (resEf d res y)
    | none => none
  | true, false => match disjN (ssRefs as) (ssOwns as), decSlots lk [] args as with
    | true, some x => (Fn x).bind fun y => κ (packCvs (resCvs d res y)) (dropEf (ssOwns as) ++ resEf d res y)
    | _, _ => none
  | _, _ => none

/-- A function's results, out of its last state. -/
def resVals {R : Type} (P : Program) (S : St) : List ResultVar → (List SS → Option R) → Option R
  | [], κ => κ []
  | .tmp t :: l, κ => resVals P S l fun r => κ (nth S.slots t :: r)
  | .cell a t :: l, κ => load P (look S.objs) t (nth S.slots a) fun v => resVals P S l fun r => κ (v :: r)

def ownIds : List RPat → List SS → List Nat
  | .own _ _ :: rs, .val (.one (.own j)) :: l => j :: ownIds rs l
  | _ :: rs, _ :: l => ownIds rs l
  | _, _ => []

def ownOf (S : St) (e : TypeId) (t : Ty) : SV → Option (List t.den)
  | .own j => match look S.objs j with
    | some (.arr e' u l) => bif Nat.beq e' e then castL u t l else none
    | _ => none
  | .at (.slice none 0 0) => some []
  | _ => none

def resDec (S : St) (keep : List Nat) : (rs : List RPat) → List SS → Option (resDen rs)
  | [], [] => some ()
  | .one t :: rs, .val (.one v) :: l => match decSAll (look S.objs) keep t [v], resDec S keep rs l with
    | some x, some y => some (x, y)
    | _, _ => none
  | .agg t :: rs, .val (.agg c) :: l => match decSAll (look S.objs) keep t c, resDec S keep rs l with
    | some x, some y => some (x, y)
    | _, _ => none
  | .own e t :: rs, .val (.one v) :: l => match ownOf S e t v, resDec S keep rs l with
    | some x, some y => some (x, y)
    | _, _ => none
  | _, _ => none

def fin (P : Program) (rv : List ResultVar) (res : List RPat) : SExit → St → Option (resDen res)
  | .exit _, _ => none
  | _, S => resVals P S rv fun l => resDec S (ownIds res l) res l

def pad (n : Nat) (l : List SS) : List SS := l ++ List.replicate (n - l.length) .dead

end Go.Sh
