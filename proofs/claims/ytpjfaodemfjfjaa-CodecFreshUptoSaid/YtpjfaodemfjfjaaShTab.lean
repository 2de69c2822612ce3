/-
  Tables of what is called, and of the pieces of a body; functions that call themselves. No project text.
-/
import Derived.Test.YtpjfaodemfjfjaaShCon4
namespace Go.Sh

/- Tables of what is called, and of the pieces of a body. -/

structure Entry where
  f : FuncId
  args : List Pat
  ao : List (Nat × OPat)
  res : List RPat
  ro : List (Nat × OPat)
  Fn : inDen args ao → Option (outDen res ro)

def envOf {R : Type} : List Entry → Sums R
  | [], _ => none
  | e :: l, f => bif Nat.beq e.f f then some (conSum e.args e.ao e.res e.ro e.Fn) else envOf l f

def EnvOk (P : Program) : List Entry → Prop
  | [] => True
  | e :: l => Con P e.f e.args e.ao e.res e.ro e.Fn ∧ EnvOk P l

theorem envOf_ok {P : Program} {R : Type} : ∀ {l : List Entry}, EnvOk P l → ∀ C : Ctx, C.P = P → ∀ f (g : Nat → List SS → Lk → (SS → List Ef → Option R) → Option R), envOf l f = some g → SumOk C f g
  | [], _, _, _, _, _, h => by cases h
  | e :: l, hl, C, hC, f, g, h => by
    simp only [envOf] at h
    cases hb : Nat.beq e.f f with
    | true =>
      simp only [hb, cond_true, Option.some.injEq] at h
      subst h
      have := Nat.eq_of_beq_eq_true hb
      subst this
      subst hC
      exact conSum_ok hl.1
    | false => simp only [hb, cond_false] at h; exact envOf_ok hl.2 C hC f g h

theorem envOf_det {R : Type} : ∀ (l : List Entry) (f : FuncId) (g : Nat → List SS → Lk → (SS → List Ef → Option R) → Option R), envOf l f = some g → DetSum g
  | [], _, _, h => by cases h
  | e :: l, f, g, h => by
    simp only [envOf] at h
    cases hb : Nat.beq e.f f with
    | true =>
      simp only [hb, cond_true, Option.some.injEq] at h
      subst h
      exact conSum_det
    | false => simp only [hb, cond_false] at h; exact envOf_det l f g h

structure PEntry where
  at_ : List Nat
  s : Spec
  l : s.T.den → Option (xDen s.X)

def samePath : List Nat → List Nat → Bool
  | [], [] => true
  | i :: p, j :: q => Nat.beq i j && samePath p q
  | _, _ => false

theorem samePath_ok : ∀ {p q : List Nat}, samePath p q = true → p = q
  | [], [], _ => rfl
  | i :: p, j :: q, h => by
    simp only [samePath, Bool.and_eq_true] at h
    rw [Nat.eq_of_beq_eq_true h.1, samePath_ok h.2]
  | [], _ :: _, h => by cases h
  | _ :: _, [], h => by cases h

/-- A piece that is taken where the state fits it; else the next one for the same place. -/
def pieceOr {R : Type} (s : Spec) (l : s.T.den → Option (xDen s.X)) (g : Option (St → (SExit → St → Option R) → Option R)) (S : St) (κ : SExit → St → Option R) : Option R :=
  match s.T.dec (prep s.prep S) with
  | some x => (l x).bind fun y => xRun s.X y κ
  | none => match g with
    | some g => g S κ
    | none => none

def piecesOf {R : Type} : List PEntry → Pieces R
  | [], _ => none
  | e :: l, p => bif samePath e.at_ p then some (pieceOr e.s e.l (piecesOf l p)) else piecesOf l p

def PiecesOk (P : Program) (root : Code) : List PEntry → Prop
  | [] => True
  | e :: l => (∀ C : Ctx, C.P = P → ∀ {R : Type}, PieceOk C (codeAt root e.at_) (piece (R := R) e.s e.l)) ∧ PiecesOk P root l

theorem piecesOf_ok {P : Program} {root : Code} {R : Type} : ∀ {l : List PEntry}, PiecesOk P root l → ∀ C : Ctx, C.P = P → ∀ p (g : St → (SExit → St → Option R) → Option R), piecesOf l p = some g → PieceOk C (codeAt root p) g
  | [], _, _, _, _, _, h => by cases h
  | e :: l, hl, C, hC, p, g, h => by
    simp only [piecesOf] at h
    cases hb : samePath e.at_ p with
    | true =>
      simp only [hb, cond_true, Option.some.injEq] at h
      subst h
      rw [← samePath_ok hb]
      intro hd S tmps w ds κ r I hk
      cases hx : e.s.T.dec (prep e.s.prep S) with
      | some x =>
        have : piece e.s e.l S κ = some r := by simpa only [pieceOr, piece, hx] using hk
        exact hl.1 C hC hd S tmps w ds κ r I this
      | none =>
        simp only [pieceOr, hx] at hk
        cases hg : piecesOf (R := R) l e.at_ with
        | none => rw [hg] at hk; cases hk
        | some g =>
          rw [hg] at hk
          exact piecesOf_ok hl.2 C hC e.at_ g hg hd S tmps w ds κ r I hk
    | false => simp only [hb, cond_false] at h; exact piecesOf_ok hl.2 C hC p g h

/-- A loop at a place of a body, by its own body's run. -/
theorem loop_entry {P : Program} {root : Code} {at_ : List Nat} {s : Spec} {body : Code} (hcode : codeAt root at_ = .loop body) {env : List Entry} (hE : EnvOk P env) {ps : Nat → List PEntry} (hL : ∀ k, PiecesOk P body (ps k))
    {l : Nat → s.T.den → Option (xDen s.X)} (h0 : ∀ x, l 0 x = none) (K : Nat) (hs : ∀ k x, l (k + 1) x = sh P (envOf env) (piecesOf (ps K)) body [] (s.T.enc x) (again s (l k))) :
    ∀ (k : Nat) (C : Ctx), C.P = P → ∀ {R : Type}, PieceOk C (codeAt root at_) (piece (R := R) s (l k)) := by
  intro k C hC R
  subst hC
  exact loop_ok (envOf_ok hE C rfl) (envOf_det env) hcode (piecesOf_ok (hL K) C rfl) h0 hs k

theorem once_entry {P : Program} {root : Code} {at_ : List Nat} {s : Spec} {code : Code} (hcode : codeAt root at_ = code) {env : List Entry} (hE : EnvOk P env) {ps : List PEntry} (hL : PiecesOk P code ps)
    {l : s.T.den → Option (xDen s.X)} (hs : ∀ x, l x = sh P (envOf env) (piecesOf ps) code [] (s.T.enc x) (xDec s.X)) :
    ∀ (C : Ctx), C.P = P → ∀ {R : Type}, PieceOk C (codeAt root at_) (piece (R := R) s l) := by
  intro C hC R
  subst hC
  rw [hcode]
  exact once_ok (envOf_ok hE C rfl) (envOf_det env) (piecesOf_ok hL C rfl) hs

/-- How a function starts: its data in the first slots, the objects that come in, each still what came in. -/
def atEntry (fn : Func) (args : List Pat) (ao : List (Nat × OPat)) (x : inDen args ao) : St :=
  ⟨pad fn.ntmps (encSlots (fun i => i) args (inArgs ao x)), encObjs (fun i => i) ao (inObjs ao x), oids ao⟩

theorem con_entry {P : Program} {f : FuncId} {fn : Func} {body : Code} {args : List Pat} {ao : List (Nat × OPat)} {res : List RPat} {ro : List (Nat × OPat)} (hf : P.funcs[f]? = some fn) (hb : fn.body = some body) (hao : nodupB (oids ao) = true) {env : List Entry} (hE : EnvOk P env) {ps : List PEntry} (hL : PiecesOk P body ps)
    {Fn : inDen args ao → Option (outDen res ro)} (hs : ∀ x, Fn x = sh P (envOf env) (piecesOf ps) body [] (atEntry fn args ao x) (fin P fn.results.toList ao res ro)) : Con P f args ao res ro Fn :=
  con_of_sh hf hb hao (envOf_ok hE) (envOf_det env) (piecesOf_ok hL) hs

theorem Con_none {P : Program} {f : FuncId} {args : List Pat} {ao : List (Nat × OPat)} {res : List RPat} {ro : List (Nat × OPat)} {Fn : inDen args ao → Option (outDen res ro)} (h : ∀ x, Fn x = none) : Con P f args ao res ro Fn := by
  intro w F hd x y vals _ _ _ _ _ hy
  rw [h] at hy
  cases hy

/-- A function that calls itself, to any depth. -/
theorem rec_entry {P : Program} {f : FuncId} {fn : Func} {body : Code} {args : List Pat} {ao : List (Nat × OPat)} {res : List RPat} {ro : List (Nat × OPat)} (hf : P.funcs[f]? = some fn) (hb : fn.body = some body) (hao : nodupB (oids ao) = true) {env : List Entry} (hE : EnvOk P env)
    {Fn : Nat → inDen args ao → Option (outDen res ro)} {ps : Nat → List PEntry} (h0 : ∀ x, Fn 0 x = none)
    (hL : ∀ k, Con P f args ao res ro (Fn k) → PiecesOk P body (ps k))
    (hs : ∀ k x, Fn (k + 1) x = sh P (envOf (⟨f, args, ao, res, ro, Fn k⟩ :: env)) (piecesOf (ps k)) body [] (atEntry fn args ao x) (fin P fn.results.toList ao res ro)) : ∀ k, Con P f args ao res ro (Fn k)
  | 0 => Con_none h0
  | k + 1 =>
    have ih := rec_entry hf hb hao hE h0 hL hs k
    con_entry (env := ⟨f, args, ao, res, ro, Fn k⟩ :: env) hf hb hao ⟨ih, hE⟩ (hL k ih) (hs k)

end Go.Sh
