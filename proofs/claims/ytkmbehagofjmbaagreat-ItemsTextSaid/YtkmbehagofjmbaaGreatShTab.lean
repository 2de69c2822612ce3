/-
  Tables of what is called, and of the pieces of a body; functions that call themselves. No project text.
-/
import Derived.Test.YtkmbehagofjmbaaGreatShCon4
namespace Go.Sh

/- Tables of what is called, and of the pieces of a body. -/

structure Entry where
  f : FuncId
  args : List Pat
  ao : List (Nat × OPat)
  res : List RPat
  ro : List (Nat × OPat)
  Fn : inDen args ao → Option (outDen res ro)

/-- The contract where its patterns fit what is handed over; else the next one of the same function. -/
def conOr {R : Type} (e : Entry) (g : Option (Nat → List SS → Lk → (SS → List Ef → Option R) → Option R)) (d : Nat) (as : List SS) (lk : Lk) (κ : SS → List Ef → Option R) : Option R :=
  match bindArgs e.args as [] with
  | some _ => conSum e.args e.ao e.res e.ro e.Fn d as lk κ
  | none => match g with
    | some g => g d as lk κ
    | none => none

def envOf {R : Type} : List Entry → Sums R
  | [], _ => none
  | e :: l, f => bif Nat.beq e.f f then some (conOr e (envOf l f)) else envOf l f

def EnvOk (P : Program) : List Entry → Prop
  | [] => True
  | e :: l => Con P e.f e.args e.ao e.res e.ro e.Fn ∧ EnvOk P l

theorem envOf_ok {P : Program} {R : Type} : ∀ {l : List Entry}, EnvOk P l → ∀ C : Ctx, C.P = P → ∀ f (g : Nat → List SS → Lk → (SS → List Ef → Option R) → Option R), envOf l f = some g → SumOk C f g
  | [], _, _, _, _, _, h => by cases h
  | e :: l, hl, C, hC, f, g, h => by
    simp only [envOf] at h
    cases hb : Nat.beq e.f f with
    | true =>
      simp only [hb, cond_true, Option.some.injEq] at h
      subst h
      have := Nat.eq_of_beq_eq_true hb
      subst this
      intro hd S lk tmps w d as vals κ r I hsub hargs hk
      cases hx : bindArgs e.args as [] with
      | some x =>
        simp only [conOr, hx] at hk
        subst hC
        exact conSum_ok hl.1 hd S lk tmps w d as vals κ r I hsub hargs hk
      | none =>
        simp only [conOr, hx] at hk
        cases hg : envOf (R := R) l e.f with
        | none => rw [hg] at hk; cases hk
        | some g =>
          rw [hg] at hk
          exact envOf_ok hl.2 C hC e.f g hg hd S lk tmps w d as vals κ r I hsub hargs hk
    | false => simp only [hb, cond_false] at h; exact envOf_ok hl.2 C hC f g h

theorem envOf_det {R : Type} : ∀ (l : List Entry) (f : FuncId) (g : Nat → List SS → Lk → (SS → List Ef → Option R) → Option R), envOf l f = some g → DetSum g
  | [], _, _, h => by cases h
  | e :: l, f, g, h => by
    simp only [envOf] at h
    cases hb : Nat.beq e.f f with
    | true =>
      simp only [hb, cond_true, Option.some.injEq] at h
      subst h
      intro d as lk κ r hk
      cases hx : bindArgs e.args as [] with
      | some x =>
        simp only [conOr, hx] at hk ⊢
        exact conSum_det d as lk κ r hk
      | none =>
        simp only [conOr, hx] at hk ⊢
        cases hg : envOf (R := R) l f with
        | none => rw [hg] at hk; cases hk
        | some g =>
          rw [hg] at hk
          exact envOf_det l f g hg d as lk κ r hk
    | false => simp only [hb, cond_false] at h; exact envOf_det l f g h

structure PEntry where
  at_ : List Nat
  s : Spec
  l : s.T.den → Option (xDen s.X)

def samePath : List Nat → List Nat → Bool
  | [], [] => true
  | i :: p, j :: q => Nat.beq i j && samePath p q
  | _, _ => false

theorem samePath_ok : ∀ {p q : List Nat}, samePath p q = true → p = q
  | [], [], _ => rfl
  | i :: p, j :: q, h => by
    simp only [samePath, Bool.and_eq_true] at h
    rw [Nat.eq_of_beq_eq_true h.1, samePath_ok h.2]
  | [], _ :: _, h => by cases h
  | _ :: _, [], h => by cases h

/-- A piece that is taken where the state fits it; else the next one for the same place. -/
def pieceOr {R : Type} (s : Spec) (l : s.T.den → Option (xDen s.X)) (g : Option (St → (SExit → St → Option R) → Option R)) (S : St) (κ : SExit → St → Option R) : Option R :=
  match s.T.dec (prep s.prep S) with
  | some x => (l x).bind fun y => xRun s.X y κ
  | none => match g with
    | some g => g S κ
    | none => none

def piecesOf {R : Type} : List PEntry → Pieces R
  | [], _ => none
  | e :: l, p => bif samePath e.at_ p then some (pieceOr e.s e.l (piecesOf l p)) else piecesOf l p

def PiecesOk (P : Program) (root : Code) : List PEntry → Prop
  | [] => True
  | e :: l => (∀ C : Ctx, C.P = P → ∀ {R : Type}, PieceOk C (codeAt root e.at_) (piece (R := R) e.s e.l)) ∧ PiecesOk P root l

theorem piecesOf_ok {P : Program} {root : Code} {R : Type} : ∀ {l : List PEntry}, PiecesOk P root l → ∀ C : Ctx, C.P = P → ∀ p (g : St → (SExit → St → Option R) → Option R), piecesOf l p = some g → PieceOk C (codeAt root p) g
  | [], _, _, _, _, _, h => by cases h
  | e :: l, hl, C, hC, p, g, h => by
    simp only [piecesOf] at h
    cases hb : samePath e.at_ p with
    | true =>
      simp only [hb, cond_true, Option.some.injEq] at h
      subst h
      rw [← samePath_ok hb]
      intro hd S tmps w ds κ r I hk
      cases hx : e.s.T.dec (prep e.s.prep S) with
      | some x =>
        have : piece e.s e.l S κ = some r := by simpa only [pieceOr, piece, hx] using hk
        exact hl.1 C hC hd S tmps w ds κ r I this
      | none =>
        simp only [pieceOr, hx] at hk
        cases hg : piecesOf (R := R) l e.at_ with
        | none => rw [hg] at hk; cases hk
        | some g =>
          rw [hg] at hk
          exact piecesOf_ok hl.2 C hC e.at_ g hg hd S tmps w ds κ r I hk
    | false => simp only [hb, cond_false] at h; exact piecesOf_ok hl.2 C hC p g h

/-- A loop at a place of a body, by its own body's run. -/
theorem loop_entry {P : Program} {root : Code} {at_ : List Nat} {s : Spec} {body : Code} (hcode : codeAt root at_ = .loop body) {env : List Entry} (hE : EnvOk P env) {ps : Nat → List PEntry} (hL : ∀ k, PiecesOk P body (ps k))
    {l : Nat → s.T.den → Option (xDen s.X)} (h0 : ∀ x, l 0 x = none) (K : Nat) (hs : ∀ k x, l (k + 1) x = sh P (envOf env) (piecesOf (ps K)) body [] (s.T.enc x) (again s (l k))) :
    ∀ (k : Nat) (C : Ctx), C.P = P → ∀ {R : Type}, PieceOk C (codeAt root at_) (piece (R := R) s (l k)) := by
  intro k C hC R
  subst hC
  exact loop_ok (envOf_ok hE C rfl) (envOf_det env) hcode (piecesOf_ok (hL K) C rfl) h0 hs k

theorem once_entry {P : Program} {root : Code} {at_ : List Nat} {s : Spec} {code : Code} (hcode : codeAt root at_ = code) {env : List Entry} (hE : EnvOk P env) {ps : List PEntry} (hL : PiecesOk P code ps)
    {l : s.T.den → Option (xDen s.X)} (hs : ∀ x, l x = sh P (envOf env) (piecesOf ps) code [] (s.T.enc x) (xDec s.X)) :
    ∀ (C : Ctx), C.P = P → ∀ {R : Type}, PieceOk C (codeAt root at_) (piece (R := R) s l) := by
  intro C hC R
  subst hC
  rw [hcode]
  exact once_ok (envOf_ok hE C rfl) (envOf_det env) (piecesOf_ok hL C rfl) hs

/-- How a function starts: its data in the first slots, the objects that come in, each still what came in. -/
def atEntry (fn : Func) (args : List Pat) (ao : List (Nat × OPat)) (x : inDen args ao) : St :=
  ⟨pad fn.ntmps (encSlots (fun i => i) args (inArgs ao x)), encObjs (fun i => i) ao (inObjs ao x), oids ao⟩

/-- A loop that hands on what goes on behind it. -/
structure CEntry where
  at_ : List Nat
  env : List Entry
  ps : List PEntry
  body : Code
  T : Option Tmpl
  pr : Preps
  k : Nat

def cpsOf {R : Type} [DecidableEq R] (P : Program) : List CEntry → Pieces R
  | [], _ => none
  | e :: l, p => bif samePath e.at_ p then some (cloop P (envOf e.env) (piecesOf e.ps) e.body e.T e.pr e.k) else cpsOf P l p

def CsOk (P : Program) (root : Code) : List CEntry → Prop
  | [] => True
  | e :: l => (codeAt root e.at_ = .loop e.body ∧ EnvOk P e.env ∧ PiecesOk P e.body e.ps) ∧ CsOk P root l

theorem cpsOf_ok {P : Program} {root : Code} {R : Type} [DecidableEq R] : ∀ {l : List CEntry}, CsOk P root l → ∀ C : Ctx, C.P = P → ∀ p (g : St → (SExit → St → Option R) → Option R), cpsOf P l p = some g → PieceOk C (codeAt root p) g
  | [], _, _, _, _, _, h => by cases h
  | e :: l, hl, C, hC, p, g, h => by
    simp only [cpsOf] at h
    cases hb : samePath e.at_ p with
    | true =>
      simp only [hb, cond_true, Option.some.injEq] at h
      subst h
      rw [← samePath_ok hb]
      subst hC
      obtain ⟨⟨h1, h2, h3⟩, _⟩ := hl
      exact cloop_ok (envOf_ok h2 C rfl) (envOf_det e.env) h1 (piecesOf_ok h3 C rfl) e.T e.pr e.k
    | false => simp only [hb, cond_false] at h; exact cpsOf_ok hl.2 C hC p g h

/-- Pieces of both kinds. -/
def piecesC {R : Type} [DecidableEq R] (P : Program) (ps : List PEntry) (cs : List CEntry) : Pieces R := fun p =>
  match cpsOf P cs p with
  | some g => some g
  | none => piecesOf ps p

theorem piecesC_ok {P : Program} {root : Code} {R : Type} [DecidableEq R] {ps : List PEntry} {cs : List CEntry} (hp : PiecesOk P root ps) (hc : CsOk P root cs) (C : Ctx) (hC : C.P = P) (p : List Nat) (g : St → (SExit → St → Option R) → Option R)
    (h : piecesC P ps cs p = some g) : PieceOk C (codeAt root p) g := by
  unfold piecesC at h
  split at h
  · rename_i g' hg
    simp only [Option.some.injEq] at h
    subst h
    exact cpsOf_ok hc C hC p _ hg
  · exact piecesOf_ok hp C hC p g h

theorem con_entry {P : Program} {f : FuncId} {fn : Func} {body : Code} {args : List Pat} {ao : List (Nat × OPat)} {res : List RPat} {ro : List (Nat × OPat)} (hf : P.funcs[f]? = some fn) (hb : fn.body = some body) (hao : nodupB (oids ao) = true) {env : List Entry} (hE : EnvOk P env) {ps : List PEntry} (hL : PiecesOk P body ps)
    {Fn : inDen args ao → Option (outDen res ro)} {pr : Preps} (hs : ∀ x, Fn x = sh P (envOf env) (piecesOf ps) body [] (atEntry fn args ao x) (finP P pr fn.results.toList ao res ro)) : Con P f args ao res ro Fn :=
  con_of_sh hf hb hao (envOf_ok hE) (envOf_det env) (piecesOf_ok hL) pr hs

/-- With loops of both kinds. -/
theorem con_entry_c {P : Program} {f : FuncId} {fn : Func} {body : Code} {args : List Pat} {ao : List (Nat × OPat)} {res : List RPat} {ro : List (Nat × OPat)} (hf : P.funcs[f]? = some fn) (hb : fn.body = some body) (hao : nodupB (oids ao) = true) {env : List Entry} (hE : EnvOk P env) {ps : List PEntry} (hL : PiecesOk P body ps)
    {cs : List CEntry} (hC : CsOk P body cs)
    {Fn : inDen args ao → Option (outDen res ro)} {pr : Preps} (hs : ∀ x, Fn x = sh P (envOf env) (piecesC P ps cs) body [] (atEntry fn args ao x) (finP P pr fn.results.toList ao res ro)) : Con P f args ao res ro Fn :=
  con_of_sh hf hb hao (envOf_ok hE) (envOf_det env) (piecesC_ok hL hC) pr hs

/-- A body's run, as a function of what comes in. -/
def shF (P : Program) (env : List Entry) (ps : List PEntry) (cs : List CEntry) (b : Code) (fn : Func) (pr : Preps) (args : List Pat) (ao : List (Nat × OPat)) (res : List RPat) (ro : List (Nat × OPat)) (x : inDen args ao) : Option (outDen res ro) :=
  sh P (envOf env) (piecesC P ps cs) b [] (atEntry fn args ao x) (finP P pr fn.results.toList ao res ro)

theorem con_entry_f {P : Program} {f : FuncId} {fn : Func} {body : Code} {args : List Pat} {ao : List (Nat × OPat)} {res : List RPat} {ro : List (Nat × OPat)} (hf : P.funcs[f]? = some fn) (hb : fn.body = some body) (hao : nodupB (oids ao) = true) {env : List Entry} (hE : EnvOk P env) {ps : List PEntry} (hL : PiecesOk P body ps)
    {cs : List CEntry} (hC : CsOk P body cs) (pr : Preps) : Con P f args ao res ro (shF P env ps cs body fn pr args ao res ro) :=
  con_entry_c hf hb hao hE hL hC fun _ => rfl

/-- A round's run. -/
def shL (P : Program) (env : List Entry) (ps : List PEntry) (b : Code) (s : Spec) (l : s.T.den → Option (xDen s.X)) (x : s.T.den) : Option (xDen s.X) := sh P (envOf env) (piecesOf ps) b [] (s.T.enc x) (again s l)

/-- A piece's run. -/
def shO (P : Program) (env : List Entry) (ps : List PEntry) (b : Code) (s : Spec) (x : s.T.den) : Option (xDen s.X) := sh P (envOf env) (piecesOf ps) b [] (s.T.enc x) (xDec s.X)

/-- A contract under another Lean function, where that one speaks. -/
theorem Con.nice {P : Program} {f : FuncId} {args : List Pat} {ao : List (Nat × OPat)} {res : List RPat} {ro : List (Nat × OPat)} {F : Nat → inDen args ao → Option (outDen res ro)} (h : ∀ K, Con P f args ao res ro (F K))
    {G : inDen args ao → Option (outDen res ro)} (hG : ∀ x y, G x = some y → ∃ K, F K x = some y) : Con P f args ao res ro G := by
  intro w F' hd x y vals h1 h2 h3 h4 h5 hy
  obtain ⟨K, hK⟩ := hG x y hy
  exact h K w F' hd x y vals h1 h2 h3 h4 h5 hK

theorem Con_none {P : Program} {f : FuncId} {args : List Pat} {ao : List (Nat × OPat)} {res : List RPat} {ro : List (Nat × OPat)} {Fn : inDen args ao → Option (outDen res ro)} (h : ∀ x, Fn x = none) : Con P f args ao res ro Fn := by
  intro w F hd x y vals _ _ _ _ _ hy
  rw [h] at hy
  cases hy

/-- A function that calls itself, to any depth. -/
theorem rec_entry {P : Program} {f : FuncId} {fn : Func} {body : Code} {args : List Pat} {ao : List (Nat × OPat)} {res : List RPat} {ro : List (Nat × OPat)} (hf : P.funcs[f]? = some fn) (hb : fn.body = some body) (hao : nodupB (oids ao) = true) {env : List Entry} (hE : EnvOk P env)
    {Fn : Nat → inDen args ao → Option (outDen res ro)} {ps : Nat → List PEntry} {pr : Preps} (h0 : ∀ x, Fn 0 x = none)
    (hL : ∀ k, Con P f args ao res ro (Fn k) → PiecesOk P body (ps k))
    (hs : ∀ k x, Fn (k + 1) x = sh P (envOf (⟨f, args, ao, res, ro, Fn k⟩ :: env)) (piecesOf (ps k)) body [] (atEntry fn args ao x) (finP P pr fn.results.toList ao res ro)) : ∀ k, Con P f args ao res ro (Fn k)
  | 0 => Con_none h0
  | k + 1 =>
    have ih := rec_entry hf hb hao hE h0 hL hs k
    con_entry (env := ⟨f, args, ao, res, ro, Fn k⟩ :: env) hf hb hao ⟨ih, hE⟩ (hL k ih) (hs k)

end Go.Sh
