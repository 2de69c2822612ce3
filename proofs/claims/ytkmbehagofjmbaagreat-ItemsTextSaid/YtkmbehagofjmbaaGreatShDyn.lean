/-
  Runs of closed calls: shapes of arguments and results are read off the values, loops are unrolled. No project text.
-/
import Derived.Test.YtkmbehagofjmbaaGreatShFrz
namespace Go.Sh


def inDeq (args : List Pat) : (ao : List (Nat × OPat)) → DecidableEq (inDen args ao)
  | [] => inferInstanceAs (DecidableEq (slotsDen args))
  | p :: l => inferInstanceAs (DecidableEq (slotsDen args × objsDen (p :: l)))

instance (args : List Pat) (ao : List (Nat × OPat)) : DecidableEq (inDen args ao) := inDeq args ao

structure DOut where
  res : List RPat
  ro : List (Nat × OPat)
  y : outDen res ro

instance : DecidableEq DOut
  | ⟨r, o, y⟩, ⟨r', o', y'⟩ =>
    if h : r = r' then
      if h2 : o = o' then
        if h3 : h2 ▸ h ▸ y = y' then isTrue (by subst h; subst h2; subst h3; rfl)
        else isFalse (fun e => by cases e; exact h3 rfl)
      else isFalse (fun e => by cases e; exact h2 rfl)
    else isFalse (fun e => by cases e; exact h rfl)

structure DPick where
  args : List Pat
  ao : List (Nat × OPat)
  x : inDen args ao
  o : DOut

/-- What is taken how: functions whose list arguments come in as the call's own; those whose lists inside aggregates and variables do. -/
structure Pol where
  argOwn : FuncId → Bool
  deep : FuncId → Bool
  tidy : FuncId → Bool

/-- The types of a type's cells. -/
def cellTys (P : Program) : Nat → TypeId → List TypeId
  | 0, t => [t]
  | d + 1, t => match P.underlying t with
    | some (.struct fs) => fs.toList.flatMap fun f => cellTys P d f.type
    | some (.array n e) => (List.replicate n (cellTys P d e)).flatten
    | _ => [t]

def tysOf (P : Program) : Option TypeId → List TypeId
  | some t => cellTys P 8 t
  | none => []

def pointee (P : Program) : Option TypeId → Option TypeId
  | some t => match P.underlying t with
    | some (.pointer e) => some e
    | _ => none
  | none => none

inductive Rf where
  | cp (c : CP)
  | own (i : Nat)
  | ptr (i : Nat)

def cellRf (P : Program) (lk : Lk) (deep : Bool) (t : Option TypeId) : SV → Option Rf
  | .at (.int k _) => some (.cp (.dat (.int k)))
  | .at (.bool _) => some (.cp (.dat .bool))
  | .at (.string _) => some (.cp (.dat .str))
  | .at (.func (.func f) _ _) => some (.cp (.fn f))
  | .at (.slice none 0 0) => match t with
    | some t => match P.underlying t with
      | some (.slice e) => (tyAt P e).map fun u => .cp (.dat (.sl u))
      | _ => none
    | none => none
  | .fz t _ => some (.cp (.dat (.sl t)))
  | .own i => match lk i with
    | some (.arr _ u _) => bif deep then some (.own i) else some (.cp (.dat (.sl u)))
    | some _ => some (.own i)
    | none => none
  | .vw i _ _ _ => match lk i with
    | some (.arr _ u _) => some (.cp (.dat (.sl u)))
    | _ => none
  | .bs _ _ _ t => some (.cp (.dat (.sl t)))
  | .es _ _ _ _ _ t => some (.cp (.dat (.sl t)))
  | .ptr i 0 => some (.ptr i)
  | _ => none

/-- Names given so far: the name, the object, the type behind a pointer. -/
abbrev WL := List (Nat × Nat × Option TypeId)

def wlFind (i : Nat) : WL → Option Nat
  | [] => none
  | (k, j, _) :: l => bif Nat.beq j i then some k else wlFind i l

def wlName (base : Nat) (wl : WL) (i : Nat) (t : Option TypeId) : Nat × WL :=
  match wlFind i wl with
  | some k => (k, wl)
  | none => (base + wl.length, wl ++ [(base + wl.length, i, t)])

def cellsCP (P : Program) (lk : Lk) (deep : Bool) (base : Nat) : List SV → List TypeId → WL → Option (List CP × WL)
  | [], _, wl => some ([], wl)
  | v :: cs, ts, wl => match cellRf P lk deep ts.head? v with
    | none => none
    | some (.cp c) => match cellsCP P lk deep base cs ts.tail wl with
      | some (l, wl) => some (c :: l, wl)
      | none => none
    | some (.own i) => match cellsCP P lk deep base cs ts.tail (wlName base wl i none).2 with
      | some (l, wl') => some (.own (wlName base wl i none).1 :: l, wl')
      | none => none
    | some (.ptr i) => match cellsCP P lk deep base cs ts.tail (wlName base wl i (pointee P ts.head?)).2 with
      | some (l, wl') => some (.ptr (wlName base wl i (pointee P ts.head?)).1 :: l, wl')
      | none => none

def obOf (P : Program) (lk : Lk) (deep : Bool) (base : Nat) (t : Option TypeId) (wl : WL) : Ob → Option (OPat × WL)
  | .box cells => match cellsCP P lk deep base cells (tysOf P t) wl with
    | some (l, wl) => some (.mix l, wl)
    | none => none
  | .arr e u _ => some (.arr e u, wl)
  | .clo g cells => match cellsCP P lk deep base cells [] wl with
    | some (l, wl) => some (.clo g l, wl)
    | none => none
  | .ifc t v => match v with
    | .own j => some (.ifc t (wlName base wl j none).1, (wlName base wl j none).2)
    | _ => none
  | .map mt ka va k v _ _ nl => some (.map mt ka va k v nl, wl)
  | .iter m _ _ => some (.iter (wlName base wl m none).1, (wlName base wl m none).2)
  | .gone => none

def walkObs (P : Program) (lk : Lk) (deep : Bool) (base : Nat) : Nat → Nat → WL → Option (List (Nat × OPat))
  | 0, _, _ => none
  | d + 1, n, wl => match wl[n]? with
    | none => some []
    | some (k, i, t) => match lk i with
      | none => none
      | some ob => match obOf P lk deep base t wl ob with
        | some (o, wl) => (walkObs P lk deep base d (n + 1) wl).map fun l => (k, o) :: l
        | none => none

def argPats (P : Program) (lk : Lk) (own deep : Bool) : List SS → List TypeId → WL → Option (List Pat × WL)
  | [], _, wl => some ([], wl)
  | .val (.one v) :: as, ts, wl =>
    match cellRf P lk own ts.head? v with
    | none => match argPats P lk own deep as ts.tail wl with
      | some (l, wl) => some (.dead :: l, wl)
      | none => none
    | some (.cp (.dat t)) => match argPats P lk own deep as ts.tail wl with
      | some (l, wl) => some (.one t :: l, wl)
      | none => none
    | some (.cp (.fn f)) => match argPats P lk own deep as ts.tail wl with
      | some (l, wl) => some (.fn f :: l, wl)
      | none => none
    | some (.cp _) => none
    | some (.own i) => match argPats P lk own deep as ts.tail (wlName 500000 wl i none).2 with
      | some (l, wl') => some (.own (wlName 500000 wl i none).1 :: l, wl')
      | none => none
    | some (.ptr i) => match argPats P lk own deep as ts.tail (wlName 500000 wl i (pointee P ts.head?)).2 with
      | some (l, wl') => some (.ptr (wlName 500000 wl i (pointee P ts.head?)).1 :: l, wl')
      | none => none
  | .val (.agg cs) :: as, ts, wl => match cellsCP P lk deep 500000 cs (tysOf P ts.head?) wl with
    | none => none
    | some (c, wl) => match argPats P lk own deep as ts.tail wl with
      | some (l, wl) => some (.mix c :: l, wl)
      | none => none
  | .tup _ :: _, _, _ => none

def shapeIn (P : Program) (pol : Pol) (f : FuncId) (as : List SS) (lk : Lk) : Option (List Pat × List (Nat × OPat)) :=
  match P.funcs[f]? with
  | none => none
  | some fn => match argPats P lk (pol.argOwn f) (pol.deep f) as fn.params.toList [] with
    | none => none
    | some (A, wl) => (walkObs P lk (pol.deep f) 500000 40 0 wl).map fun I => (A, I)

/-- A nil list that is handed back is a list of the call's own. -/
def nilOwn (P : Program) (t : Option TypeId) : SV → Option (TypeId × Ty)
  | .at (.slice none 0 0) => match t with
    | some t => match P.underlying t with
      | some (.slice e) => (tyAt P e).map fun u => (e, u)
      | _ => none
    | none => none
  | _ => none

/-- The results' shapes; lists that are handed back as they are. -/
def resPats (P : Program) (lk : Lk) (deep : Bool) : List SS → List TypeId → List Nat → WL → Option (List RPat × List Nat × WL)
  | [], _, tk, wl => some ([], tk, wl)
  | .val (.one v) :: as, ts, tk, wl =>
    match cellRf P lk true ts.head? v with
    | none => none
    | some (.cp (.dat t)) => match nilOwn P ts.head? v with
      | some (e, u) => match resPats P lk deep as ts.tail tk wl with
        | some (l, r) => some (.own e u :: l, r)
        | none => none
      | none => match resPats P lk deep as ts.tail tk wl with
      | some (l, r) => some (.one t :: l, r)
      | none => none
    | some (.cp _) => none
    | some (.own i) => match lk i with
      | some (.arr e t _) => bif memN i tk then
          match resPats P lk deep as ts.tail tk wl with
          | some (l, r) => some (.one (.sl t) :: l, r)
          | none => none
        else match resPats P lk deep as ts.tail (i :: tk) wl with
          | some (l, r) => some (.own e t :: l, r)
          | none => none
      | _ => match resPats P lk deep as ts.tail tk (wlName 600000 wl i none).2 with
        | some (l, r) => some (.obj (wlName 600000 wl i none).1 :: l, r)
        | none => none
    | some (.ptr i) => match resPats P lk deep as ts.tail tk (wlName 600000 wl i (pointee P ts.head?)).2 with
      | some (l, r) => some (.ptr (wlName 600000 wl i (pointee P ts.head?)).1 :: l, r)
      | none => none
  | .val (.agg cs) :: as, ts, tk, wl => match cellsCP P lk deep 600000 cs (tysOf P ts.head?) wl with
    | none => none
    | some (c, wl) => match resPats P lk deep as ts.tail tk wl with
      | some (l, r) => some (.mix c :: l, r)
      | none => none
  | .tup _ :: _, _, _, _ => none

/-- The types behind the pointers that came in. -/
def ptrTys (P : Program) : List Pat → List TypeId → List (Nat × Option TypeId)
  | .ptr k :: A, ts => (k, pointee P ts.head?) :: ptrTys P A ts.tail
  | _ :: A, ts => ptrTys P A ts.tail
  | [], _ => []

def tyAtN (l : List (Nat × Option TypeId)) (k : Nat) : Option TypeId :=
  match l with
  | [] => none
  | (j, t) :: l => bif Nat.beq j k then t else tyAtN l k

def roOf (P : Program) (pol : Pol) (f : FuncId) (fn : Func) (A : List Pat) (I : List (Nat × OPat)) (S : St) (l : List SS) : Option (List RPat × List (Nat × OPat)) :=
  let pt := ptrTys P A fn.params.toList
  let wl0 : WL := (meet (oids I) S.pins).map fun i => (i, i, tyAtN pt i)
  match resPats P (look S.objs) (pol.deep f) l fn.resultTypes.toList [] wl0 with
  | none => none
  | some (R, tk, wl) =>
    -- a list that is handed back is no longer where it came in
    (walkObs P (look S.objs) (pol.deep f) 600000 40 0 (wl.filter fun (_, i, _) => !memN i tk)).map fun O => (R, O)

def finDyn (P : Program) (pol : Pol) (f : FuncId) (fn : Func) (A : List Pat) (I : List (Nat × OPat)) (e : SExit) (S : St) : Option DOut :=
  match resVals P S fn.results.toList fun l => roOf P pol f fn A I S l with
  | some (R, O) => match fin P fn.results.toList I R O e S with
    | some y => some ⟨R, O, y⟩
    | none => none
  | none => none

/-- Loops are unrolled; where 'td' says so, lists are frozen ahead of each region. -/
def dynL {R : Type} [DecidableEq R] (P : Program) (E : Sums R) (td : Bool) : Nat → Code → Pieces R
  | 0, _, _ => none
  | n + 1, root, p => match codeAt root p with
    | .loop body => some (cloop P E (dynL P E td n body) body none [] 100000)
    | .region i os dr => bif td then some (fun S κ => sh P E (fun _ => none) (.region i os dr) [] S.tidy κ) else none
    | _ => none

abbrev DRun := FuncId → (A : List Pat) → (I : List (Nat × OPat)) → inDen A I → Option DOut

def dynPick (P : Program) (pol : Pol) (run : DRun) (f : FuncId) (as : List SS) (lk : Lk) : Option DPick :=
  match shapeIn P pol f as lk with
  | none => none
  | some (A, I) => match (bindArgs A as []).bind (bindObs lk I) with
    | none => none
    | some σ => match decSlots lk ((oids I).map (named σ)) (named σ) A as, decObjs lk ((oids I).map (named σ)) (named σ) I with
      | some x, some o => match run f A I (mkIn I x o) with
        | some q => some ⟨A, I, mkIn I x o, q⟩
        | none => none
      | _, _ => none

/-- A contract at one input. -/
def onlyAt {args : List Pat} {ao : List (Nat × OPat)} (x : inDen args ao) (q : DOut) (x' : inDen args ao) : Option (outDen q.res q.ro) := if x' = x then some q.y else none

def dynSum {R : Type} (P : Program) (pol : Pol) (run : DRun) (f : FuncId) (d : Nat) (as : List SS) (lk : Lk) (κ : SS → List Ef → Option R) : Option R :=
  match dynPick P pol run f as lk with
  | none => none
  | some q => conSum q.args q.ao q.o.res q.o.ro (onlyAt q.x q.o) d as lk κ

/-- What a call of a function is to the evaluator, given by hand. -/
structure Raw where
  f : FuncId
  g : {R : Type} → Nat → List SS → Lk → (SS → List Ef → Option R) → Option R

def rawOf {R : Type} : List Raw → Sums R
  | [], _ => none
  | e :: l, f => bif Nat.beq e.f f then some e.g else rawOf l f

def RawOk (P : Program) : List Raw → Prop
  | [] => True
  | e :: l => (∀ {R : Type}, (∀ C : Ctx, C.P = P → SumOk C e.f (e.g (R := R))) ∧ DetSum (e.g (R := R))) ∧ RawOk P l

theorem rawOf_ok {P : Program} {R : Type} : ∀ {l : List Raw}, RawOk P l → ∀ f (g : Nat → List SS → Lk → (SS → List Ef → Option R) → Option R), rawOf l f = some g → (∀ C : Ctx, C.P = P → SumOk C f g) ∧ DetSum g
  | [], _, _, _, h => by cases h
  | e :: l, hl, f, g, h => by
    simp only [rawOf] at h
    cases hb : Nat.beq e.f f with
    | true =>
      simp only [hb, cond_true, Option.some.injEq] at h
      subst h
      rw [← Nat.eq_of_beq_eq_true hb]
      exact hl.1
    | false => simp only [hb, cond_false] at h; exact rawOf_ok hl.2 f g h

structure Stat where
  es : List Entry
  rs : List Raw

def StatOk (P : Program) (s : Stat) : Prop := EnvOk P s.es ∧ RawOk P s.rs

def dynEnv {R : Type} (P : Program) (pol : Pol) (stat : Stat) (run : DRun) : Sums R := fun f =>
  match rawOf stat.rs f with
  | some g => some g
  | none => match envOf stat.es f with
    | some g => some g
    | none => bif callable P f then some (dynSum P pol run f) else none

def dynRun (P : Program) (pol : Pol) (stat : Stat) : Nat → DRun
  | 0, _, _, _, _ => none
  | n + 1, f, A, I, x => match P.funcs[f]? with
    | none => none
    | some fn => match fn.body with
      | none => none
      | some body => bif nodupB (oids I) then sh P (dynEnv P pol stat (dynRun P pol stat n)) (dynL P (dynEnv P pol stat (dynRun P pol stat n)) (pol.tidy f) 6 body) body [] (atEntry fn A I x) (finDyn P pol f fn A I) else none

/-- What a run says is a contract at its input. -/
def RunOk (P : Program) (run : DRun) : Prop := ∀ f A I x q, run f A I x = some q → Con P f A I q.res q.ro (onlyAt x q)

theorem dynSum_ok {R : Type} {P : Program} {pol : Pol} {run : DRun} (h : RunOk P run) {C : Ctx} (hC : C.P = P) (f : FuncId) : SumOk C f (dynSum (R := R) P pol run f) := by
  intro hd S lk tmps w d as vals κ r I hsub hargs hk
  unfold dynSum at hk
  split at hk
  · cases hk
  · rename_i q hq
    unfold dynPick at hq
    split at hq
    · cases hq
    · rename_i A I' hs
      split at hq
      · cases hq
      · split at hq
        · split at hq
          · rename_i q' hr
            simp only [Option.some.injEq] at hq
            subst hq
            subst hC
            exact conSum_ok (h _ _ _ _ _ hr) hd S lk tmps w d as vals κ r I hsub hargs hk
          · cases hq
        · cases hq

theorem dynSum_det {R : Type} {P : Program} {pol : Pol} {run : DRun} {f : FuncId} : DetSum (dynSum (R := R) P pol run f) := by
  intro d as lk κ r hk
  unfold dynSum at hk
  split at hk
  · cases hk
  · rename_i q hq
    obtain ⟨v, es, h1, h2⟩ := conSum_det d as lk κ r hk
    exact ⟨v, es, h1, fun κ' r' hk' => by unfold dynSum; rw [hq]; exact h2 κ' r' hk'⟩

theorem dynEnv_ok {R : Type} {P : Program} {pol : Pol} {stat : Stat} (hs : StatOk P stat) {run : DRun} (h : RunOk P run) (C : Ctx) (hC : C.P = P) (f : FuncId) (g : Nat → List SS → Lk → (SS → List Ef → Option R) → Option R) (hg : dynEnv P pol stat run f = some g) : SumOk C f g := by
  unfold dynEnv at hg
  split at hg
  · rename_i g' hg'
    simp only [Option.some.injEq] at hg
    subst hg
    exact (rawOf_ok hs.2 f _ hg').1 C hC
  split at hg
  · rename_i g' hg'
    simp only [Option.some.injEq] at hg
    subst hg
    exact envOf_ok hs.1 C hC f _ hg'
  · obtain ⟨_, hg⟩ := bif_some hg
    simp only [Option.some.injEq] at hg
    subst hg
    exact dynSum_ok h hC f

theorem dynEnv_det {R : Type} {P : Program} {pol : Pol} {stat : Stat} (hs : StatOk P stat) {run : DRun} (f : FuncId) (g : Nat → List SS → Lk → (SS → List Ef → Option R) → Option R) (hg : dynEnv P pol stat run f = some g) : DetSum g := by
  unfold dynEnv at hg
  split at hg
  · rename_i g' hg'
    simp only [Option.some.injEq] at hg
    subst hg
    exact (rawOf_ok hs.2 f _ hg').2
  split at hg
  · rename_i g' hg'
    simp only [Option.some.injEq] at hg
    subst hg
    exact envOf_det stat.es f _ hg'
  · obtain ⟨_, hg⟩ := bif_some hg
    simp only [Option.some.injEq] at hg
    subst hg
    exact dynSum_det

theorem dynL_ok {R : Type} [DecidableEq R] {C : Ctx} {E : Sums R} (hE : ∀ f g, E f = some g → SumOk C f g) (hQ : ∀ f g, E f = some g → DetSum g) (td : Bool) : ∀ (n : Nat) (root : Code) (p : List Nat) (g : St → (SExit → St → Option R) → Option R), dynL C.P E td n root p = some g → PieceOk C (codeAt root p) g
  | 0, _, _, _, h => by cases h
  | n + 1, root, p, g, h => by
    simp only [dynL] at h
    split at h
    · rename_i body hb
      simp only [Option.some.injEq] at h
      subst h
      exact cloop_ok hE hQ hb (fun q g' hg' => dynL_ok hE hQ td n body q g' hg') none [] _
    · rename_i i os dr hb
      obtain ⟨_, h⟩ := bif_some h
      simp only [Option.some.injEq] at h
      subst h
      intro hd S tmps w ds κ r I h
      rw [hb]
      exact sh_wp hE hQ (.region i os dr) (fun _ _ h => by cases h) (.region i os dr) rfl I.tidy h
    · cases h

theorem finDyn_ok {P : Program} {pol : Pol} {f : FuncId} {fn : Func} {A : List Pat} {I : List (Nat × OPat)} {e : SExit} {S : St} {q : DOut} (h : finDyn P pol f fn A I e S = some q) : finP P [] fn.results.toList I q.res q.ro e S = some q.y := by
  unfold finDyn at h
  split at h
  · split at h
    · rename_i y hy
      simp only [Option.some.injEq] at h
      subst h
      exact hy
    · cases h
  · cases h

theorem dynRun_ok {P : Program} {pol : Pol} {stat : Stat} (hs : StatOk P stat) : ∀ n, RunOk P (dynRun P pol stat n)
  | 0 => fun _ _ _ _ _ h => by cases h
  | n + 1 => by
    intro f A I x q h
    have ih := dynRun_ok (pol := pol) hs n
    simp only [dynRun] at h
    split at h
    · cases h
    · rename_i fn hf
      split at h
      · cases h
      · rename_i body hb
        obtain ⟨hn, h⟩ := bif_some h
        refine con_of_run hf hb hn fun x' y' hy => ⟨⟨DOut, inferInstance, dynEnv P pol stat (dynRun P pol stat n), dynL P (dynEnv P pol stat (dynRun P pol stat n)) (pol.tidy f) 6 body, finDyn P pol f fn A I, q, fun C hC => dynEnv_ok hs ih C hC, dynEnv_det hs, fun C hC => ?_, ?_, fun ex S hk => ⟨[], ?_⟩⟩⟩
        · subst hC
          exact dynL_ok (dynEnv_ok hs ih C rfl) (dynEnv_det hs) (pol.tidy f) 6 body
        · unfold onlyAt at hy
          split at hy
          · rename_i e
            subst e
            exact h
          · cases hy
        · unfold onlyAt at hy
          split at hy
          · simp only [Option.some.injEq] at hy
            subst hy
            exact finDyn_ok hk
          · cases hy

/-- A closed call. -/
theorem closed_call {P : Program} {pol : Pol} {stat : Stat} (hs : StatOk P stat) {n : Nat} {f : FuncId} {y : outDen [.one .bool] []} (h : dynRun P pol stat n f [] [] () = some ⟨[.one .bool], [], y⟩) : Con P f [] [] [.one .bool] [] (fun _ => some y) := by
  have := dynRun_ok (pol := pol) hs n f [] [] () _ h
  intro w F hd x y' vals h1 h2 h3 h4 h5 hy
  exact this w F hd x y' vals h1 h2 h3 h4 h5 (by simpa [onlyAt] using hy)

end Go.Sh
