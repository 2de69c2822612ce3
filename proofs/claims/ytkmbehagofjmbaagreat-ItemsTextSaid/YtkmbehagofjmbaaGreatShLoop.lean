/-
  Loops and contracts over the shadow evaluator. No project text.
-/
import Derived.Test.YtkmbehagofjmbaaGreatShFun
namespace Go.Sh

abbrev Preps := List (Nat × Nat × TypeId × Ty)

/-- The ways out of a piece of code, each with the state's shape there. -/
structure Out where
  exit : SExit
  prep : Preps := []
  T : Tmpl

@[reducible] def xDen : List Out → Type
  | [] => Empty
  | [x] => x.T.den
  | x :: y :: l => Sum x.T.den (xDen (y :: l))

def xDeq : (X : List Out) → DecidableEq (xDen X)
  | [] => inferInstanceAs (DecidableEq Empty)
  | [x] => inferInstanceAs (DecidableEq (spDen x.T.slots × objsDen x.T.objs))
  | x :: y :: l => haveI := xDeq (y :: l); inferInstanceAs (DecidableEq (Sum (spDen x.T.slots × objsDen x.T.objs) (xDen (y :: l))))

instance (X : List Out) : DecidableEq (xDen X) := xDeq X

def sameExit : SExit → SExit → Bool
  | .normal, .normal => true
  | .exit i, .exit j => Nat.beq i j
  | .ret, .ret => true
  | _, _ => false

def xDec : (X : List Out) → SExit → St → Option (xDen X)
  | [], _, _ => none
  | [x], e, S => bif sameExit x.exit e then x.T.dec (prep x.prep S) else none
  | x :: y :: l, e, S => bif sameExit x.exit e then
      (match x.T.dec (prep x.prep S) with
       | some a => some (.inl a)
       | none => match xDec (y :: l) e S with
         | some b => some (.inr b)
         | none => none)
    else match xDec (y :: l) e S with
      | some b => some (.inr b)
      | none => none

def xRun {R : Type} : (X : List Out) → xDen X → (SExit → St → Option R) → Option R
  | [], _, _ => none
  | [x], a, κ => κ x.exit (x.T.enc a)
  | x :: y :: l, z, κ => match z with
    | .inl a => κ x.exit (x.T.enc a)
    | .inr b => xRun (y :: l) b κ

structure Spec where
  T : Tmpl
  prep : Preps := []
  X : List Out

def piece {R : Type} (s : Spec) (l : s.T.den → Option (xDen s.X)) (S : St) (κ : SExit → St → Option R) : Option R :=
  match s.T.dec (prep s.prep S) with
  | some x => (l x).bind fun y => xRun s.X y κ
  | none => none

/-- What goes on behind a round. -/
def again (s : Spec) (l : s.T.den → Option (xDen s.X)) : SExit → St → Option (xDen s.X)
  | .normal, S => match s.T.dec (prep s.prep S) with
    | some x => l x
    | none => none
  | e, S => xDec s.X e S

section
variable {C : Ctx} {hd : Nat → Value} {S : St} {tmps : Array Value} {w : World} {ds : List Deferred}

theorem sameExit_ok {a b : SExit} (h : sameExit a b = true) : a = b := by
  cases a <;> cases b <;> simp [sameExit] at h <;> first | rfl | (subst h; rfl) | (rw [Nat.eq_of_beq_eq_true h])

theorem xDec_ok : ∀ (X : List Out) {hd : Nat → Value} {S : St} {e : SExit} {y : xDen X}, Inv C hd S tmps w → xDec X e S = some y →
    ∃ hd' S', Inv C hd' S' tmps w ∧ ∀ {R : Type} (κ : SExit → St → Option R) (r : R), xRun X y κ = some r → κ e S' = some r := by
  intro X
  induction X with
  | nil => intro hd S e y I h; cases h
  | cons x X ih =>
    intro hd S e y I h
    cases X with
    | nil =>
      simp only [xDec] at h
      obtain ⟨he, h2⟩ := bif_some h
      clear h
      have he := sameExit_ok he
      subst he
      obtain ⟨hd1, I1⟩ := prep_ok x.prep I
      exact ⟨hd1, _, x.T.dec_ok I1 h2, fun κ r hk => hk⟩
    | cons x2 X =>
      have rest : ∀ {z : xDen (x :: x2 :: X)}, (match xDec (x2 :: X) e S with | some b => some (Sum.inr b : xDen (x :: x2 :: X)) | none => none) = some z →
          ∃ hd' S', Inv C hd' S' tmps w ∧ ∀ {R : Type} (κ : SExit → St → Option R) (r : R), xRun (x :: x2 :: X) z κ = some r → κ e S' = some r := by
        intro z h
        split at h
        · rename_i b hb
          simp only [Option.some.injEq] at h
          subst h
          exact ih I hb
        · cases h
      simp only [xDec] at h
      cases hs : sameExit x.exit e with
      | false => rw [hs] at h; exact rest h
      | true =>
        rw [hs] at h
        simp only [cond_true] at h
        split at h
        · rename_i a ha
          simp only [Option.some.injEq] at h
          subst h
          have he := sameExit_ok hs
          subst he
          obtain ⟨hd1, I1⟩ := prep_ok x.prep I
          exact ⟨hd1, _, x.T.dec_ok I1 ha, fun κ r hk => hk⟩
        · exact rest h

/-- Behind a piece: whatever goes on there from the state that the answer says, goes on. -/
def Left (C : Ctx) (ds : List Deferred) (X : List Out) (y : xDen X) (e : Exit) (a : Act) (w : World) : Prop :=
  ∃ x hd S, e = x.real ∧ a.defers = ds ∧ Inv C hd S a.tmps w ∧ ∀ {R : Type} (κ : SExit → St → Option R) (r : R), xRun X y κ = some r → κ x S = some r

theorem Left.after {X : List Out} {y : xDen X} {R : Type} {κ : SExit → St → Option R} {r : R} (hk : xRun X y κ = some r) {e : Exit} {a : Act} (h : Left C ds X y e a w) : After C ds κ r e a w := by
  obtain ⟨x, hd, S, he, hds, I, hr⟩ := h
  exact ⟨x, hd, S, he, hr κ r hk, hds, I⟩

theorem loop_ok {s : Spec} {E : Sums (xDen s.X)} (hE : ∀ f g, E f = some g → SumOk C f g) (hQ : ∀ f g, E f = some g → DetSum g) {L : Pieces (xDen s.X)} {code body : Code} (hcode : code = .loop body) (hL : ∀ p g, L p = some g → PieceOk C (codeAt body p) g)
    {l : Nat → s.T.den → Option (xDen s.X)} (h0 : ∀ x, l 0 x = none) (hs : ∀ k x, l (k + 1) x = sh C.P E L body [] (s.T.enc x) (again s (l k))) :
    ∀ (k : Nat) {R : Type}, PieceOk C code (piece (R := R) s (l k)) := by
  subst hcode
  have key : ∀ (k : Nat) (ds : List Deferred) (x : s.T.den) (y : xDen s.X) (hd : Nat → Value) (tmps : Array Value) (w : World), l k x = some y → Inv C hd (s.T.enc x) tmps w →
      loopWp C.P body (Left C ds s.X y) { tmps, defers := ds } w := by
    intro k
    induction k with
    | zero => intro ds x y hd tmps w h; rw [h0] at h; cases h
    | succ k ih =>
      intro ds x y hd tmps w h I
      rw [hs] at h
      refine loopWp.round (wp_mono (sh_wp hE hQ body hL (ds := ds) body rfl I h) ?_)
      rintro e ⟨tmps', ds'⟩ w' ⟨ex, hd', S', rfl, hk, hds, I'⟩
      simp only at hds
      subst hds
      cases ex with
      | normal =>
        simp only [again] at hk
        split at hk
        · rename_i x2 hx2
          obtain ⟨hd1, I1⟩ := prep_ok s.prep I'
          exact ih ds' x2 y hd1 tmps' w' hk (s.T.dec_ok I1 hx2)
        · cases hk
      | exit i =>
        obtain ⟨hd1, S1, I1, hr⟩ := xDec_ok s.X I' hk
        exact ⟨.exit i, hd1, S1, rfl, rfl, I1, hr⟩
      | ret =>
        obtain ⟨hd1, S1, I1, hr⟩ := xDec_ok s.X I' hk
        exact ⟨.ret, hd1, S1, rfl, rfl, I1, hr⟩
  intro k R hd S tmps w ds κ r I h
  unfold piece at h
  split at h
  · rename_i x hx
    rw [Option.bind_eq_some_iff] at h
    obtain ⟨y, hy, hk⟩ := h
    obtain ⟨hd1, I1⟩ := prep_ok s.prep I
    exact wp_mono (loopWp.wp (key k ds x y hd1 tmps w hy (s.T.dec_ok I1 hx))) fun e a w hl => hl.after hk
  · cases h

/-- A piece of code that is taken once. -/
theorem once_ok {s : Spec} {E : Sums (xDen s.X)} (hE : ∀ f g, E f = some g → SumOk C f g) (hQ : ∀ f g, E f = some g → DetSum g) {L : Pieces (xDen s.X)} {code : Code} (hL : ∀ p g, L p = some g → PieceOk C (codeAt code p) g)
    {l : s.T.den → Option (xDen s.X)} (hs : ∀ x, l x = sh C.P E L code [] (s.T.enc x) (xDec s.X)) {R : Type} : PieceOk C code (piece (R := R) s l) := by
  intro hd S tmps w ds κ r I h
  unfold piece at h
  split at h
  · rename_i x hx
    rw [Option.bind_eq_some_iff] at h
    obtain ⟨y, hy, hk⟩ := h
    obtain ⟨hd1, I1⟩ := prep_ok s.prep I
    rw [hs] at hy
    refine wp_mono (sh_wp hE hQ code hL (ds := ds) code rfl (s.T.dec_ok I1 hx) hy) ?_
    rintro e ⟨tmps', ds'⟩ w' ⟨ex, hd', S', rfl, hk', hds, I'⟩
    obtain ⟨hd2, S2, I2, hr⟩ := xDec_ok s.X I' hk'
    exact ⟨ex, hd2, S2, rfl, hr κ r hk, hds, I2⟩
  · cases h

/- Loops that hand on what goes on behind them: for walks over maps. -/

/-- How such a loop begins a round: with a template's state, or with the state as it stands. -/
def headOf (T : Option Tmpl) (pr : Preps) (S : St) : Option St :=
  match T with
  | some T => match T.dec (prep pr S) with
    | some x => some (T.enc x)
    | none => none
  | none => some S

def cloop {R : Type} [DecidableEq R] (P : Program) (E : Sums R) (L : Pieces R) (body : Code) (T : Option Tmpl) (pr : Preps) : Nat → St → (SExit → St → Option R) → Option R
  | 0, _, _ => none
  | k + 1, S, κ => match headOf T pr S with
    | some S1 => sh P E L body [] S1 fun e S' => match e with
      | .normal => cloop P E L body T pr k S' κ
      | e => κ e S'
    | none => none

theorem cloop_ok {R : Type} [DecidableEq R] {E : Sums R} (hE : ∀ f g, E f = some g → SumOk C f g) (hQ : ∀ f g, E f = some g → DetSum g) {L : Pieces R} {code body : Code} (hcode : code = .loop body) (hL : ∀ p g, L p = some g → PieceOk C (codeAt body p) g) (T : Option Tmpl) (pr : Preps) :
    ∀ k : Nat, PieceOk C code (cloop C.P E L body T pr k) := by
  subst hcode
  have key : ∀ (k : Nat) (ds : List Deferred) (hd : Nat → Value) (S : St) (tmps : Array Value) (w : World) (κ : SExit → St → Option R) (r : R), Inv C hd S tmps w → cloop C.P E L body T pr k S κ = some r →
      loopWp C.P body (After C ds κ r) { tmps, defers := ds } w := by
    intro k
    induction k with
    | zero => intro ds hd S tmps w κ r I h; simp [cloop] at h
    | succ k ih =>
      intro ds hd S tmps w κ r I h
      simp only [cloop] at h
      split at h
      · rename_i S1 hS1
        have I2 : ∃ hd1, Inv C hd1 S1 tmps w := by
          unfold headOf at hS1
          split at hS1
          · rename_i T
            split at hS1
            · rename_i x hx
              simp only [Option.some.injEq] at hS1
              subst hS1
              obtain ⟨hd1, I1⟩ := prep_ok pr I
              exact ⟨hd1, T.dec_ok I1 hx⟩
            · cases hS1
          · simp only [Option.some.injEq] at hS1
            subst hS1
            exact ⟨hd, I⟩
        obtain ⟨hd1, I1⟩ := I2
        refine loopWp.round (wp_mono (sh_wp hE hQ body hL (ds := ds) body rfl I1 h) ?_)
        rintro e ⟨tmps', ds'⟩ w' ⟨ex, hd', S', rfl, hk, hds, I'⟩
        simp only at hds
        subst hds
        cases ex with
        | normal => exact ih ds' hd' S' tmps' w' κ r I' hk
        | exit i => exact ⟨.exit i, hd', S', rfl, hk, rfl, I'⟩
        | ret => exact ⟨.ret, hd', S', rfl, hk, rfl, I'⟩
      · cases h
  intro k hd S tmps w ds κ r I h
  exact loopWp.wp (key k ds hd S tmps w κ r I h)

end

/- Contracts. -/

/-- What a function hands back: data; a list of the call's own; the handle of an object; a pointer to one; an aggregate of such. -/
inductive RPat where
  | one (t : Ty)
  | agg (t : Ty)
  | own (e : TypeId) (t : Ty)
  | obj (i : Nat)
  | ptr (i : Nat)
  | mix (l : List CP)
  | mp (mt : TypeId) (ka va : Bool) (k v : Ty)
  deriving DecidableEq

@[reducible] def resDen : List RPat → Type
  | [] => Unit
  | .one t :: l => t.den × resDen l
  | .agg t :: l => t.den × resDen l
  | .own _ t :: l => List t.den × resDen l
  | .obj _ :: l => resDen l
  | .ptr _ :: l => resDen l
  | .mix c :: l => cpDen c × resDen l
  | .mp _ _ _ k v :: l => (List (Nat × (k.den × v.den)) × Nat) × resDen l

def resDeq : (l : List RPat) → DecidableEq (resDen l)
  | [] => inferInstanceAs (DecidableEq Unit)
  | .one t :: l => haveI := resDeq l; inferInstanceAs (DecidableEq (t.den × resDen l))
  | .agg t :: l => haveI := resDeq l; inferInstanceAs (DecidableEq (t.den × resDen l))
  | .own _ t :: l => haveI := resDeq l; inferInstanceAs (DecidableEq (List t.den × resDen l))
  | .obj _ :: l => resDeq l
  | .ptr _ :: l => resDeq l
  | .mix c :: l => haveI := resDeq l; inferInstanceAs (DecidableEq (cpDen c × resDen l))
  | .mp _ _ _ k v :: l => haveI := resDeq l; inferInstanceAs (DecidableEq ((List (Nat × (k.den × v.den)) × Nat) × resDen l))

instance (l : List RPat) : DecidableEq (resDen l) := resDeq l

@[reducible] def inDen (args : List Pat) : List (Nat × OPat) → Type
  | [] => slotsDen args
  | p :: l => slotsDen args × objsDen (p :: l)

@[reducible] def outDen (res : List RPat) : List (Nat × OPat) → Type
  | [] => resDen res
  | p :: l => resDen res × objsDen (p :: l)

def outDeq (res : List RPat) : (ro : List (Nat × OPat)) → DecidableEq (outDen res ro)
  | [] => inferInstanceAs (DecidableEq (resDen res))
  | p :: l => inferInstanceAs (DecidableEq (resDen res × objsDen (p :: l)))

instance (res : List RPat) (ro : List (Nat × OPat)) : DecidableEq (outDen res ro) := outDeq res ro

def inArgs {args : List Pat} : (ao : List (Nat × OPat)) → inDen args ao → slotsDen args
  | [], x => x
  | _ :: _, x => x.1

def inObjs {args : List Pat} : (ao : List (Nat × OPat)) → inDen args ao → objsDen ao
  | [], _ => ()
  | _ :: _, x => x.2

def mkIn {args : List Pat} : (ao : List (Nat × OPat)) → slotsDen args → objsDen ao → inDen args ao
  | [], x, _ => x
  | _ :: _, x, o => (x, o)

def outRes {res : List RPat} : (ro : List (Nat × OPat)) → outDen res ro → resDen res
  | [], y => y
  | _ :: _, y => y.1

def outObjs {res : List RPat} : (ro : List (Nat × OPat)) → outDen res ro → objsDen ro
  | [], _ => ()
  | _ :: _, y => y.2

def mkOut {res : List RPat} : (ro : List (Nat × OPat)) → resDen res → objsDen ro → outDen res ro
  | [], y, _ => y
  | _ :: _, y, o => (y, o)

def cpFlat : List CP → Bool
  | [] => true
  | .dat t :: l => t.flat && cpFlat l
  | .own _ :: l => cpFlat l
  | .ptr _ :: l => cpFlat l
  | .fn _ :: l => cpFlat l

def resFlat : List RPat → Bool
  | [] => true
  | .one t :: l => t.flat && resFlat l
  | .agg t :: l => t.flat && resFlat l
  | .own _ t :: l => t.flat && resFlat l
  | .obj _ :: l => resFlat l
  | .ptr _ :: l => resFlat l
  | .mix c :: l => cpFlat c && resFlat l
  | .mp _ _ _ k v :: l => k.flat && v.flat && resFlat l

def obsFlat : List (Nat × OPat) → Bool
  | [] => true
  | (_, .box t) :: l => t.flat && obsFlat l
  | (_, .arr _ t) :: l => t.flat && obsFlat l
  | (_, .mix c) :: l => cpFlat c && obsFlat l
  | (_, .clo _ c) :: l => cpFlat c && obsFlat l
  | (_, .ifc _ _) :: l => obsFlat l
  | (_, .map _ _ _ k v _) :: l => k.flat && v.flat && obsFlat l
  | (_, .iter _) :: l => obsFlat l

/-- The name of the list of the call's own that stands at place j of the results. -/
def ownAt (j : Nat) : Nat := 1000000 + 2 * j

/-- The name of the map of the call's own, or of none, that stands at place j of the results. -/
def mapAt (j : Nat) : Nat := 1000001 + 2 * j

/-- The names of the lists of the call's own among the results. -/
def ownIds : Nat → List RPat → List Nat
  | _, [] => []
  | j, .own _ _ :: l => ownAt j :: ownIds (j + 1) l
  | j, .mp _ _ _ _ _ :: l => mapAt j :: ownIds (j + 1) l
  | j, _ :: l => ownIds (j + 1) l

def resCvs (ρ : Nat → Nat) : Nat → (rs : List RPat) → resDen rs → List Cv
  | _, [], _ => []
  | j, .one t :: l, y => .one (encOne t y.1) :: resCvs ρ (j + 1) l y.2
  | j, .agg t :: l, y => .agg (enc t y.1) :: resCvs ρ (j + 1) l y.2
  | j, .own _ _ :: l, y => .one (.own (ρ (ownAt j))) :: resCvs ρ (j + 1) l y.2
  | j, .obj i :: l, y => .one (.own (ρ i)) :: resCvs ρ (j + 1) l y
  | j, .ptr i :: l, y => .one (.ptr (ρ i) 0) :: resCvs ρ (j + 1) l y
  | j, .mix c :: l, y => .agg (encCP ρ c y.1) :: resCvs ρ (j + 1) l y.2
  | j, .mp _ _ _ _ _ :: l, y => .one (.own (ρ (mapAt j))) :: resCvs ρ (j + 1) l y.2

def resObs (ρ : Nat → Nat) : Nat → (rs : List RPat) → resDen rs → List (Nat × Ob)
  | _, [], _ => []
  | j, .one _ :: l, y => resObs ρ (j + 1) l y.2
  | j, .agg _ :: l, y => resObs ρ (j + 1) l y.2
  | j, .own e t :: l, y => (ρ (ownAt j), .arr e t y.1) :: resObs ρ (j + 1) l y.2
  | j, .obj _ :: l, y => resObs ρ (j + 1) l y
  | j, .ptr _ :: l, y => resObs ρ (j + 1) l y
  | j, .mix _ :: l, y => resObs ρ (j + 1) l y.2
  | j, .mp mt ka va k v :: l, y => (ρ (mapAt j), .map mt ka va k v y.1.1 y.1.2 true) :: resObs ρ (j + 1) l y.2

def packCvs : List Cv → SS
  | [c] => .val c
  | l => .tup l

def pack : List Value → Value
  | [v] => v
  | l => .tuple l.toArray

def oids : List (Nat × OPat) → List Nat
  | [] => []
  | (i, _) :: l => i :: oids l

def Apart (hd : Nat → Value) (l : List (Nat × Ob)) : Prop := ∀ p ∈ l, ∀ q ∈ l, p.1 ≠ q.1 → ∀ b, blk (hd p.1) = some b → blk (hd q.1) = some b → False

/-- Does object i of these lie in block b? -/
def LiesIn (hd : Nat → Value) (l : List (Nat × Ob)) (b : Nat) : Prop := ∃ p ∈ l, blk (hd p.1) = some b

/-- The function does what the Lean function says. 'ao': the objects that come in; those of them that are not among 'ro' are given up. 'ro': the objects behind the call. -/
def Con (P : Program) (f : FuncId) (args : List Pat) (ao : List (Nat × OPat)) (res : List RPat) (ro : List (Nat × OPat)) (Fn : inDen args ao → Option (outDen res ro)) : Prop :=
  ∀ (w : World) (F : Nat → Prop) (hd : Nat → Value) (x : inDen args ao) (y : outDen res ro) (vals : List Value), (∀ b, F b → b < w.heap.size) →
    (∀ b, LiesIn hd (encObjs (fun i => i) ao (inObjs ao x)) b → ¬ F b) → Apart hd (encObjs (fun i => i) ao (inObjs ao x)) →
    (∀ p ∈ encObjs (fun i => i) ao (inObjs ao x), ObRel w (forb F hd (encObjs (fun i => i) ao (inObjs ao x))) hd (hd p.1) p.2) →
    all2 (SSRel w (forb F hd (encObjs (fun i => i) ao (inObjs ao x))) hd) (encSlots (fun i => i) args (inArgs ao x)) vals → Fn x = some y →
    Calls P f vals.toArray w fun e w' => ∃ vs hd', e = .returned (pack vs) ∧
      all2 (CvRel w' (forb F hd' (encObjs (fun i => i) ro (outObjs ro y) ++ resObs (fun i => i) 0 res (outRes ro y))) hd') (resCvs (fun i => i) 0 res (outRes ro y)) vs ∧
      (∀ p ∈ encObjs (fun i => i) ro (outObjs ro y) ++ resObs (fun i => i) 0 res (outRes ro y), ObRel w' (forb F hd' (encObjs (fun i => i) ro (outObjs ro y) ++ resObs (fun i => i) 0 res (outRes ro y))) hd' (hd' p.1) p.2) ∧
      Apart hd' (encObjs (fun i => i) ro (outObjs ro y) ++ resObs (fun i => i) 0 res (outRes ro y)) ∧
      (∀ i ∈ oids ao, i ∈ oids ro → hd' i = hd i) ∧
      (∀ b, LiesIn hd' (encObjs (fun i => i) ro (outObjs ro y) ++ resObs (fun i => i) 0 res (outRes ro y)) b → w.heap.size ≤ b ∨ LiesIn hd (encObjs (fun i => i) ao (inObjs ao x)) b) ∧
      On w w' ∧ ∀ b, b < w.heap.size → ¬ LiesIn hd (encObjs (fun i => i) ao (inObjs ao x)) b → w'.heap[b]? = w.heap[b]?

/- Names: what a pattern calls an object, and what it is called in the state. -/

abbrev Names := List (Nat × Nat)

def nameOf : Names → Nat → Option Nat
  | [], _ => none
  | (k, i) :: l, j => bif Nat.beq k j then some i else nameOf l j

/-- An id that is no object's. -/
def nowhere : Nat := 999999999

def named (σ : Names) (k : Nat) : Nat := (nameOf σ k).getD nowhere

def bindN (σ : Names) (k i : Nat) : Option Names :=
  match nameOf σ k with
  | some j => bif Nat.beq j i then some σ else none
  | none => some ((k, i) :: σ)

def bindCP : List CP → List SV → Names → Option Names
  | [], _, σ => some σ
  | .dat t :: l, cs, σ => bindCP l (cs.drop t.nc) σ
  | .own k :: l, .own i :: cs, σ => (bindN σ k i).bind (bindCP l cs)
  | .ptr k :: l, .ptr i _ :: cs, σ => (bindN σ k i).bind (bindCP l cs)
  | .fn _ :: l, _ :: cs, σ => bindCP l cs σ
  | _, _, _ => none

def bindArgs : List Pat → List SS → Names → Option Names
  | [], _, σ => some σ
  | .own k :: l, .val (.one (.own i)) :: as, σ => (bindN σ k i).bind (bindArgs l as)
  | .ptr k :: l, .val (.one (.ptr i _)) :: as, σ => (bindN σ k i).bind (bindArgs l as)
  | .mix c :: l, .val (.agg cs) :: as, σ => (bindCP c cs σ).bind (bindArgs l as)
  | .one _ :: l, _ :: as, σ => bindArgs l as σ
  | .agg _ :: l, _ :: as, σ => bindArgs l as σ
  | .dead :: l, _ :: as, σ => bindArgs l as σ
  | .fn f :: l, .val (.one (.at v)) :: as, σ => bif isFn f v then bindArgs l as σ else none
  | _, _, _ => none

def bindObs (lk : Lk) : List (Nat × OPat) → Names → Option Names
  | [], σ => some σ
  | (k, .mix c) :: l, σ => match lk (named σ k) with
    | some (.box cells) => (bindCP c cells σ).bind (bindObs lk l)
    | _ => none
  | (k, .clo _ c) :: l, σ => match lk (named σ k) with
    | some (.clo _ cells) => (bindCP c cells σ).bind (bindObs lk l)
    | _ => none
  | (k, .ifc _ j) :: l, σ => match lk (named σ k) with
    | some (.ifc _ (.own i)) => (bindN σ j i).bind (bindObs lk l)
    | _ => none
  | (k, .iter j) :: l, σ => match lk (named σ k) with
    | some (.iter i _ _) => (bindN σ j i).bind (bindObs lk l)
    | _ => none
  | _ :: l, σ => bindObs lk l σ

def bindRes : Nat → List RPat → List SS → Names → Option Names
  | _, [], _, σ => some σ
  | j, .own _ _ :: l, .val (.one (.own i)) :: as, σ => (bindN σ (ownAt j) i).bind (bindRes (j + 1) l as)
  | j, .obj k :: l, .val (.one (.own i)) :: as, σ => (bindN σ k i).bind (bindRes (j + 1) l as)
  | j, .ptr k :: l, .val (.one (.ptr i _)) :: as, σ => (bindN σ k i).bind (bindRes (j + 1) l as)
  | j, .mix c :: l, .val (.agg cs) :: as, σ => (bindCP c cs σ).bind (bindRes (j + 1) l as)
  | j, .own _ _ :: l, .val (.one (.at _)) :: as, σ => bindRes (j + 1) l as σ
  | j, .mp _ _ _ _ _ :: l, .val (.one (.own i)) :: as, σ => (bindN σ (mapAt j) i).bind (bindRes (j + 1) l as)
  | j, .mp _ _ _ _ _ :: l, .val (.one (.at _)) :: as, σ => bindRes (j + 1) l as σ
  | j, .one _ :: l, _ :: as, σ => bindRes (j + 1) l as σ
  | j, .agg _ :: l, _ :: as, σ => bindRes (j + 1) l as σ
  | _, _, _, _ => none

/-- Those that came in and are still there, under their own names. -/
def selfN (ro : List Nat) : List Nat → Names
  | [] => []
  | i :: l => bif memN i ro then (i, i) :: selfN ro l else selfN ro l

def cpIds : List CP → List Nat
  | [] => []
  | .dat _ :: l => cpIds l
  | .own i :: l => i :: cpIds l
  | .ptr i :: l => i :: cpIds l
  | .fn _ :: l => cpIds l

def resIds : List RPat → List Nat
  | [] => []
  | .obj i :: l => i :: resIds l
  | .ptr i :: l => i :: resIds l
  | .mix c :: l => cpIds c ++ resIds l
  | .one _ :: l => resIds l
  | .agg _ :: l => resIds l
  | .own _ _ :: l => resIds l
  | .mp _ _ _ _ _ :: l => resIds l

def obsIds : List (Nat × OPat) → List Nat
  | [] => []
  | (_, .mix c) :: l => cpIds c ++ obsIds l
  | (_, .box _) :: l => obsIds l
  | (_, .arr _ _) :: l => obsIds l
  | (_, .clo _ c) :: l => cpIds c ++ obsIds l
  | (_, .ifc _ i) :: l => i :: obsIds l
  | (_, .map _ _ _ _ _ _) :: l => obsIds l
  | (_, .iter m) :: l => m :: obsIds l

/-- Is every object that the results name described, and once? -/
def outOk (res : List RPat) (ro : List (Nat × OPat)) : Bool :=
  disjN (resIds res ++ obsIds ro) (oids ro) && nodupB (oids ro ++ ownIds 0 res)

def selfBound (σ : Names) (k : Nat) : Bool :=
  match nameOf σ k with
  | some i => Nat.beq i k
  | none => false

def isBound (σ : Names) (k : Nat) : Bool :=
  match nameOf σ k with
  | some _ => true
  | none => false

/-- A without b. -/
def without (b : List Nat) : List Nat → List Nat
  | [] => []
  | i :: l => bif memN i b then without b l else i :: without b l

def meet (b : List Nat) : List Nat → List Nat
  | [] => []
  | i :: l => bif memN i b then i :: meet b l else meet b l

/-- The objects of some names, and the others. -/
def partN (ids : List Nat) : List (Nat × Ob) → List (Nat × Ob) × List (Nat × Ob)
  | [] => ([], [])
  | (i, o) :: l => bif memN i ids then ((i, o) :: (partN ids l).1, (partN ids l).2) else ((partN ids l).1, (i, o) :: (partN ids l).2)

/-- What a new object of a call at slot d is called. -/
def freshN (d k : Nat) : Nat := 10000000 * (d + 1) + k

def allRefs (lk : Lk) (as : List SS) (ids : List Nat) : List Nat := ssRefs as ++ ids.flatMap fun i => obRefs (lk i)

/-- What a call does to the state; nothing, where it does nothing. -/
def bulkE (ks : List Nat) (ins news : List (Nat × Ob)) : List Ef :=
  match ks, ins, news with
  | [], [], [] => []
  | _, _, _ => [.bulk ks ins news]

theorem apps_bulkE (ks : List Nat) (ins news : List (Nat × Ob)) (S : St) : apps (bulkE ks ins news) S = apps [.bulk ks ins news] S := by
  unfold bulkE
  split <;> rfl

/-- What a call of such a function is to the evaluator. -/
def conSum {R : Type} (args : List Pat) (ao : List (Nat × OPat)) (res : List RPat) (ro : List (Nat × OPat)) (Fn : inDen args ao → Option (outDen res ro)) (d : Nat) (as : List SS) (lk : Lk) (κ : SS → List Ef → Option R) : Option R :=
  match (bindArgs args as []).bind (bindObs lk ao) with
  | none => none
  | some σ =>
    let aids := (oids ao).map (named σ)
    let io := (meet (oids ro) (oids ao)).map (named σ)
    let dr := bif resFlat res && obsFlat ro then [] else without aids (allRefs lk as aids)
    let ρ := fun k => bif memN k (oids ao) then named σ k else freshN d k
    match nodupB aids && nodupB (oids ao) && outOk res ro && disj (ownIds 0 res) (oids ao) && disj io ((without (oids ao) (oids ro) ++ ownIds 0 res).map (freshN d)), decSlots lk aids (named σ) args as, decObjs lk aids (named σ) ao with
    | true, some x, some o => (Fn (mkIn ao x o)).bind fun y =>
      κ (packCvs (resCvs ρ 0 res (outRes ro y))) (bulkE (dr ++ without io aids) (partN io (encObjs ρ ro (outObjs ro y))).1 ((partN io (encObjs ρ ro (outObjs ro y))).2 ++ resObs ρ 0 res (outRes ro y)))
    | _, _, _ => none

/-- A function's results, out of its last state. -/
def resVals {R : Type} (P : Program) (S : St) : List ResultVar → (List SS → Option R) → Option R
  | [], κ => κ []
  | .tmp t :: l, κ => resVals P S l fun r => κ (nth S.slots t :: r)
  | .cell a t :: l, κ => load P (look S.objs) t (nth S.slots a) fun v => resVals P S l fun r => κ (v :: r)

def ownOf (S : St) (e : TypeId) (t : Ty) (nm : Option Nat) : SV → Option (List t.den)
  | .own j => match nm with
    | some i => bif Nat.beq j i then (match look S.objs j with
      | some (.arr e' u l) => bif Nat.beq e' e then castL u t l else none
      | _ => none) else none
    | none => none
  | .at (.slice none 0 0) => match nm with
    | none => some []
    | some _ => none
  | _ => none

def mapOf (S : St) (mt : TypeId) (ka va : Bool) (k v : Ty) (nm : Option Nat) : SV → Option (List (Nat × (k.den × v.den)) × Nat)
  | .own j => match nm with
    | some i => bif Nat.beq j i then (match look S.objs j with
      | some (.map mt' ka' va' k' v' l c _) => bif Nat.beq mt' mt && (ka' == ka) && (va' == va) then (match castM k' v' k v l with
        | some m => some (m, c)
        | none => none) else none
      | _ => none) else none
    | none => none
  | .at (.map none) => match nm with
    | none => some ([], 0)
    | some _ => none
  | _ => none

def resDec (S : St) (keep : List Nat) (σ : Names) : Nat → (rs : List RPat) → List SS → Option (resDen rs)
  | _, [], [] => some ()
  | j, .one t :: rs, .val (.one v) :: l => match decSAll (look S.objs) keep t [v], resDec S keep σ (j + 1) rs l with
    | some x, some y => some (x, y)
    | _, _ => none
  | j, .agg t :: rs, .val (.agg c) :: l => match decSAll (look S.objs) keep t c, resDec S keep σ (j + 1) rs l with
    | some x, some y => some (x, y)
    | _, _ => none
  | j, .own e t :: rs, .val (.one v) :: l => match ownOf S e t (nameOf σ (ownAt j)) v, resDec S keep σ (j + 1) rs l with
    | some x, some y => some (x, y)
    | _, _ => none
  | j, .obj k :: rs, .val (.one (.own i)) :: l => bif Nat.beq i (named σ k) then resDec S keep σ (j + 1) rs l else none
  | j, .ptr k :: rs, .val (.one (.ptr i 0)) :: l => bif Nat.beq i (named σ k) then resDec S keep σ (j + 1) rs l else none
  | j, .mix c :: rs, .val (.agg cs) :: l => match decCP (look S.objs) keep (named σ) c cs, resDec S keep σ (j + 1) rs l with
    | some x, some y => some (x, y)
    | _, _ => none
  | j, .mp mt ka va k v :: rs, .val (.one x) :: l => match mapOf S mt ka va k v (nameOf σ (mapAt j)) x, resDec S keep σ (j + 1) rs l with
    | some x, some y => some (x, y)
    | _, _ => none
  | _, _, _ => none

def bound (σ : Names) : List Nat → Names
  | [] => []
  | k :: l => match nameOf σ k with
    | some i => (k, i) :: bound σ l
    | none => bound σ l

def fin (P : Program) (rv : List ResultVar) (ao : List (Nat × OPat)) (res : List RPat) (ro : List (Nat × OPat)) : SExit → St → Option (outDen res ro)
  | .exit _, _ => none
  | _, S => resVals P S rv fun l => match (bindRes 0 res l (selfN (oids ro) (oids ao))).bind (bindObs (look S.objs) ro) with
    | none => none
    | some σ =>
      let keep := (bound σ (oids ro ++ ownIds 0 res)).map (·.2)
      match nodupB keep && disjN (meet (oids ro) (oids ao)) S.pins && outOk res ro && (oids ro).all (isBound σ) && (meet (oids ro) (oids ao)).all (selfBound σ), resDec S keep σ 0 res l, decObjs (look S.objs) keep (named σ) ro with
      | true, some y, some o => some (mkOut ro y o)
      | _, _, _ => none

/-- The same behind some moves: a head of a list becomes a list of its own. -/
def finP (P : Program) (pr : Preps) (rv : List ResultVar) (ao : List (Nat × OPat)) (res : List RPat) (ro : List (Nat × OPat)) (e : SExit) (S : St) : Option (outDen res ro) :=
  fin P rv ao res ro e (prep pr S)

def pad (n : Nat) (l : List SS) : List SS := l ++ List.replicate (n - l.length) .dead

end Go.Sh
