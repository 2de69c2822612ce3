/-
  Contracts of the program's functions, printed by a program of ours (wip/gen/Gen.lean) over the shadow evaluator.
-/
import Derived.Test.YtpjfaodemfjfjaaShTab
import Derived.Test.YtpjfaodemfjfjaaProg
import Derived.KernelRfl
set_option maxRecDepth 100000
set_option linter.unusedVariables false
namespace Go.Proofs.Ytpjfaodemfjfjaa
open Go Go.Sh Go.Proofs

noncomputable def bodyOf (f : Func) : Code := f.body.getD .skip
theorem noEnv {P : Program} : EnvOk P [] := trivial
theorem moreEnv {P : Program} {f : FuncId} {a : List Pat} {ao : List (Nat × OPat)} {r : List RPat} {ro : List (Nat × OPat)} {Fn : inDen a ao → Option (outDen r ro)} {l : List Entry} (h : Con P f a ao r ro Fn) (hl : EnvOk P l) : EnvOk P (⟨f, a, ao, r, ro, Fn⟩ :: l) := ⟨h, hl⟩
theorem noPs {P : Program} {b : Code} : PiecesOk P b [] := trivial
theorem morePs {P : Program} {b : Code} {p : List Nat} {s : Sh.Spec} {f : s.T.den → Option (xDen s.X)} {l : List PEntry} (h : ∀ C : Ctx, C.P = P → ∀ {R : Type}, PieceOk C (codeAt b p) (piece (R := R) s f)) (hl : PiecesOk P b l) : PiecesOk P b (⟨p, s, f⟩ :: l) := ⟨h, hl⟩
def loopBody : Code → Code
  | .loop c => c
  | c => c

/- forkledger/codec.extended -/
abbrev A28 : List Pat := [.one (.sl (.int .u8)), .one (.int .i64)]
abbrev R28 : List RPat := [.own 5 (.int .u8)]
abbrev I28 : List (Nat × OPat) := []
abbrev O28 : List (Nat × OPat) := []
noncomputable abbrev env28 (K : Nat) : List Entry := []
theorem envOk28 (K : Nat) : EnvOk Try.prog (env28 K) := noEnv
noncomputable def b28 : Code := bodyOf Try.f28
noncomputable abbrev ps28 (K : Nat) : List PEntry := []
theorem psOk28 (K : Nat) : PiecesOk Try.prog b28 (ps28 K) := noPs
noncomputable def F28 (K : Nat) (x : inDen A28 I28) : Option (outDen R28 O28) := sh Try.prog (envOf (env28 K)) (piecesOf (ps28 K)) b28 [] ⟨pad 17 (encSlots (fun i => i) A28 (inArgs I28 x)), encObjs (fun i => i) I28 (inObjs I28 x), oids I28⟩ (fin Try.prog Try.f28.results.toList I28 R28 O28)
theorem q28 : Try.f28.body = some b28 := by kernel_rfl
theorem e28 (K : Nat) (x : inDen A28 I28) : F28 K x = sh Try.prog (envOf (env28 K)) (piecesOf (ps28 K)) b28 [] (atEntry Try.f28 A28 I28 x) (fin Try.prog Try.f28.results.toList I28 R28 O28) := by kernel_rfl
theorem con28 (K : Nat) : Con Try.prog 28 A28 I28 R28 O28 (F28 K) := con_entry Try.func28 q28 rfl (envOk28 K) (psOk28 K) (e28 K)

/- forkledger/codec.AppendUint -/
abbrev A15 : List Pat := [.one (.sl (.int .u8)), .one (.int .u64), .one (.int .i64)]
abbrev R15 : List RPat := [.own 5 (.int .u8)]
abbrev I15 : List (Nat × OPat) := []
abbrev O15 : List (Nat × OPat) := []
noncomputable abbrev env15 (K : Nat) : List Entry := [⟨28, A28, I28, R28, O28, F28 K⟩]
theorem envOk15 (K : Nat) : EnvOk Try.prog (env15 K) := moreEnv (con28 K) (noEnv)
noncomputable def b15 : Code := bodyOf Try.f15
noncomputable def b15_4 : Code := loopBody (codeAt b15 [0, 1, 0, 1, 1, 1])
abbrev s15_4 : Sh.Spec := ⟨⟨30, [(1, .one (.int .u64)), (7, .own 5007), (8, .one (.int .i64))], [(5007, .arr 5 (.int .u8))], []⟩, [(7, 5007, 5, (.int .u8))], [⟨.exit 0, [(7, 5007, 5, (.int .u8))], ⟨30, [(7, .own 5007)], [(5007, .arr 5 (.int .u8))], []⟩⟩]⟩
noncomputable def l15_4 (K : Nat) : Nat → s15_4.T.den → Option (xDen s15_4.X)
  | 0, _ => none
  | k + 1, x => sh Try.prog (envOf (env15 K)) (piecesOf []) b15_4 [] (s15_4.T.enc x) (again s15_4 (l15_4 K k))
noncomputable abbrev ps15_4 (K : Nat) : List PEntry := []
theorem psOk15_4 (K : Nat) : PiecesOk Try.prog b15_4 (ps15_4 K) := noPs
theorem c15_4 : codeAt b15 [0, 1, 0, 1, 1, 1] = .loop b15_4 := by kernel_rfl
theorem z15_4 (K : Nat) (x : s15_4.T.den) : l15_4 K 0 x = none := rfl
theorem n15_4 (K k : Nat) (x : s15_4.T.den) : l15_4 K (k + 1) x = sh Try.prog (envOf (env15 K)) (piecesOf (ps15_4 K)) b15_4 [] (s15_4.T.enc x) (again s15_4 (l15_4 K k)) := by kernel_rfl
theorem p15_4 (K k : Nat) : ∀ C : Ctx, C.P = Try.prog → ∀ {R : Type}, PieceOk C (codeAt b15 [0, 1, 0, 1, 1, 1]) (piece (R := R) s15_4 (l15_4 K k)) :=
  loop_entry c15_4 (envOk15 K) (ps := ps15_4) psOk15_4 (z15_4 K) K (n15_4 K) k
noncomputable abbrev ps15 (K : Nat) : List PEntry := [⟨[0, 1, 0, 1, 1, 1], s15_4, l15_4 K K⟩]
theorem psOk15 (K : Nat) : PiecesOk Try.prog b15 (ps15 K) := morePs (p15_4 K K) (noPs)
noncomputable def F15 (K : Nat) (x : inDen A15 I15) : Option (outDen R15 O15) := sh Try.prog (envOf (env15 K)) (piecesOf (ps15 K)) b15 [] ⟨pad 30 (encSlots (fun i => i) A15 (inArgs I15 x)), encObjs (fun i => i) I15 (inObjs I15 x), oids I15⟩ (fin Try.prog Try.f15.results.toList I15 R15 O15)
theorem q15 : Try.f15.body = some b15 := by kernel_rfl
theorem e15 (K : Nat) (x : inDen A15 I15) : F15 K x = sh Try.prog (envOf (env15 K)) (piecesOf (ps15 K)) b15 [] (atEntry Try.f15 A15 I15 x) (fin Try.prog Try.f15.results.toList I15 R15 O15) := by kernel_rfl
theorem con15 (K : Nat) : Con Try.prog 15 A15 I15 R15 O15 (F15 K) := con_entry Try.func15 q15 rfl (envOk15 K) (psOk15 K) (e15 K)

/- forkledger/codec.AppendBytes -/
abbrev A16 : List Pat := [.one (.sl (.int .u8)), .one (.sl (.int .u8))]
abbrev R16 : List RPat := [.own 5 (.int .u8), .one .bool]
abbrev I16 : List (Nat × OPat) := []
abbrev O16 : List (Nat × OPat) := []
noncomputable abbrev env16 (K : Nat) : List Entry := [⟨15, A15, I15, R15, O15, F15 K⟩]
theorem envOk16 (K : Nat) : EnvOk Try.prog (env16 K) := moreEnv (con15 K) (noEnv)
noncomputable def b16 : Code := bodyOf Try.f16
noncomputable abbrev ps16 (K : Nat) : List PEntry := []
theorem psOk16 (K : Nat) : PiecesOk Try.prog b16 (ps16 K) := noPs
noncomputable def F16 (K : Nat) (x : inDen A16 I16) : Option (outDen R16 O16) := sh Try.prog (envOf (env16 K)) (piecesOf (ps16 K)) b16 [] ⟨pad 16 (encSlots (fun i => i) A16 (inArgs I16 x)), encObjs (fun i => i) I16 (inObjs I16 x), oids I16⟩ (fin Try.prog Try.f16.results.toList I16 R16 O16)
theorem q16 : Try.f16.body = some b16 := by kernel_rfl
theorem e16 (K : Nat) (x : inDen A16 I16) : F16 K x = sh Try.prog (envOf (env16 K)) (piecesOf (ps16 K)) b16 [] (atEntry Try.f16 A16 I16 x) (fin Try.prog Try.f16.results.toList I16 R16 O16) := by kernel_rfl
theorem con16 (K : Nat) : Con Try.prog 16 A16 I16 R16 O16 (F16 K) := con_entry Try.func16 q16 rfl (envOk16 K) (psOk16 K) (e16 K)

/- forkledger/forkledgerlaw2.awake -/
abbrev A9 : List Pat := []
abbrev R9 : List RPat := [.one .bool]
abbrev I9 : List (Nat × OPat) := []
abbrev O9 : List (Nat × OPat) := []
noncomputable abbrev env9 (K : Nat) : List Entry := [⟨15, A15, I15, R15, O15, F15 K⟩, ⟨16, A16, I16, R16, O16, F16 K⟩]
theorem envOk9 (K : Nat) : EnvOk Try.prog (env9 K) := moreEnv (con15 K) (moreEnv (con16 K) (noEnv))
noncomputable def b9 : Code := bodyOf Try.f9
noncomputable abbrev ps9 (K : Nat) : List PEntry := []
theorem psOk9 (K : Nat) : PiecesOk Try.prog b9 (ps9 K) := noPs
noncomputable def F9 (K : Nat) (x : inDen A9 I9) : Option (outDen R9 O9) := sh Try.prog (envOf (env9 K)) (piecesOf (ps9 K)) b9 [] ⟨pad 16 (encSlots (fun i => i) A9 (inArgs I9 x)), encObjs (fun i => i) I9 (inObjs I9 x), oids I9⟩ (fin Try.prog Try.f9.results.toList I9 R9 O9)
theorem q9 : Try.f9.body = some b9 := by kernel_rfl
theorem e9 (K : Nat) (x : inDen A9 I9) : F9 K x = sh Try.prog (envOf (env9 K)) (piecesOf (ps9 K)) b9 [] (atEntry Try.f9 A9 I9 x) (fin Try.prog Try.f9.results.toList I9 R9 O9) := by kernel_rfl
theorem con9 (K : Nat) : Con Try.prog 9 A9 I9 R9 O9 (F9 K) := con_entry Try.func9 q9 rfl (envOk9 K) (psOk9 K) (e9 K)

/- forkledger/forkledgerlaw2.kind -/
abbrev A11 : List Pat := [.agg (.pr (.int .i64) (.pr (.int .i64) (.pr (.int .u64) (.pr (.sl (.int .u8)) (.sl (.pr (.int .u8) (.pr (.int .u8) (.pr (.int .u8) (.pr (.int .u8) (.pr (.int .u8) (.pr (.int .u8) (.pr (.int .u8) (.int .u8)))))))))))))]
abbrev R11 : List RPat := [.one (.int .i64)]
abbrev I11 : List (Nat × OPat) := []
abbrev O11 : List (Nat × OPat) := []
noncomputable abbrev env11 (K : Nat) : List Entry := []
theorem envOk11 (K : Nat) : EnvOk Try.prog (env11 K) := noEnv
noncomputable def b11 : Code := bodyOf Try.f11
noncomputable abbrev ps11 (K : Nat) : List PEntry := []
theorem psOk11 (K : Nat) : PiecesOk Try.prog b11 (ps11 K) := noPs
noncomputable def F11 (K : Nat) (x : inDen A11 I11) : Option (outDen R11 O11) := sh Try.prog (envOf (env11 K)) (piecesOf (ps11 K)) b11 [] ⟨pad 8 (encSlots (fun i => i) A11 (inArgs I11 x)), encObjs (fun i => i) I11 (inObjs I11 x), oids I11⟩ (fin Try.prog Try.f11.results.toList I11 R11 O11)
theorem q11 : Try.f11.body = some b11 := by kernel_rfl
theorem e11 (K : Nat) (x : inDen A11 I11) : F11 K x = sh Try.prog (envOf (env11 K)) (piecesOf (ps11 K)) b11 [] (atEntry Try.f11 A11 I11 x) (fin Try.prog Try.f11.results.toList I11 R11 O11) := by kernel_rfl
theorem con11 (K : Nat) : Con Try.prog 11 A11 I11 R11 O11 (F11 K) := con_entry Try.func11 q11 rfl (envOk11 K) (psOk11 K) (e11 K)

/- forkledger/forkledgerlaw2.width -/
abbrev A27 : List Pat := [.agg (.pr (.int .i64) (.pr (.int .i64) (.pr (.int .u64) (.pr (.sl (.int .u8)) (.sl (.pr (.int .u8) (.pr (.int .u8) (.pr (.int .u8) (.pr (.int .u8) (.pr (.int .u8) (.pr (.int .u8) (.pr (.int .u8) (.int .u8)))))))))))))]
abbrev R27 : List RPat := [.one (.int .i64)]
abbrev I27 : List (Nat × OPat) := []
abbrev O27 : List (Nat × OPat) := []
noncomputable abbrev env27 (K : Nat) : List Entry := []
theorem envOk27 (K : Nat) : EnvOk Try.prog (env27 K) := noEnv
noncomputable def b27 : Code := bodyOf Try.f27
noncomputable abbrev ps27 (K : Nat) : List PEntry := []
theorem psOk27 (K : Nat) : PiecesOk Try.prog b27 (ps27 K) := noPs
noncomputable def F27 (K : Nat) (x : inDen A27 I27) : Option (outDen R27 O27) := sh Try.prog (envOf (env27 K)) (piecesOf (ps27 K)) b27 [] ⟨pad 9 (encSlots (fun i => i) A27 (inArgs I27 x)), encObjs (fun i => i) I27 (inObjs I27 x), oids I27⟩ (fin Try.prog Try.f27.results.toList I27 R27 O27)
theorem q27 : Try.f27.body = some b27 := by kernel_rfl
theorem e27 (K : Nat) (x : inDen A27 I27) : F27 K x = sh Try.prog (envOf (env27 K)) (piecesOf (ps27 K)) b27 [] (atEntry Try.f27 A27 I27 x) (fin Try.prog Try.f27.results.toList I27 R27 O27) := by kernel_rfl
theorem con27 (K : Nat) : Con Try.prog 27 A27 I27 R27 O27 (F27 K) := con_entry Try.func27 q27 rfl (envOk27 K) (psOk27 K) (e27 K)

/- forkledger/codec.AppendNames -/
abbrev A17 : List Pat := [.one (.sl (.int .u8)), .one (.sl (.pr (.int .u8) (.pr (.int .u8) (.pr (.int .u8) (.pr (.int .u8) (.pr (.int .u8) (.pr (.int .u8) (.pr (.int .u8) (.int .u8)))))))))]
abbrev R17 : List RPat := [.own 5 (.int .u8), .one .bool]
abbrev I17 : List (Nat × OPat) := []
abbrev O17 : List (Nat × OPat) := []
noncomputable abbrev env17 (K : Nat) : List Entry := [⟨15, A15, I15, R15, O15, F15 K⟩]
theorem envOk17 (K : Nat) : EnvOk Try.prog (env17 K) := moreEnv (con15 K) (noEnv)
noncomputable def b17 : Code := bodyOf Try.f17
noncomputable def b17_5 : Code := loopBody (codeAt b17 [0, 1, 0, 1, 1, 1])
abbrev s17_5 : Sh.Spec := ⟨⟨28, [(6, .own 5006), (17, .one (.sl (.pr (.int .u8) (.pr (.int .u8) (.pr (.int .u8) (.pr (.int .u8) (.pr (.int .u8) (.pr (.int .u8) (.pr (.int .u8) (.int .u8)))))))))), (18, .one (.int .i64)), (19, .one (.int .i64))], [(5006, .arr 5 (.int .u8))], []⟩, [(6, 5006, 5, (.int .u8))], [⟨.exit 0, [(6, 5006, 5, (.int .u8))], ⟨28, [(6, .own 5006)], [(5006, .arr 5 (.int .u8))], []⟩⟩]⟩
noncomputable def l17_5 (K : Nat) : Nat → s17_5.T.den → Option (xDen s17_5.X)
  | 0, _ => none
  | k + 1, x => sh Try.prog (envOf (env17 K)) (piecesOf []) b17_5 [] (s17_5.T.enc x) (again s17_5 (l17_5 K k))
noncomputable abbrev ps17_5 (K : Nat) : List PEntry := []
theorem psOk17_5 (K : Nat) : PiecesOk Try.prog b17_5 (ps17_5 K) := noPs
theorem c17_5 : codeAt b17 [0, 1, 0, 1, 1, 1] = .loop b17_5 := by kernel_rfl
theorem z17_5 (K : Nat) (x : s17_5.T.den) : l17_5 K 0 x = none := rfl
theorem n17_5 (K k : Nat) (x : s17_5.T.den) : l17_5 K (k + 1) x = sh Try.prog (envOf (env17 K)) (piecesOf (ps17_5 K)) b17_5 [] (s17_5.T.enc x) (again s17_5 (l17_5 K k)) := by kernel_rfl
theorem p17_5 (K k : Nat) : ∀ C : Ctx, C.P = Try.prog → ∀ {R : Type}, PieceOk C (codeAt b17 [0, 1, 0, 1, 1, 1]) (piece (R := R) s17_5 (l17_5 K k)) :=
  loop_entry c17_5 (envOk17 K) (ps := ps17_5) psOk17_5 (z17_5 K) K (n17_5 K) k
noncomputable abbrev ps17 (K : Nat) : List PEntry := [⟨[0, 1, 0, 1, 1, 1], s17_5, l17_5 K K⟩]
theorem psOk17 (K : Nat) : PiecesOk Try.prog b17 (ps17 K) := morePs (p17_5 K K) (noPs)
noncomputable def F17 (K : Nat) (x : inDen A17 I17) : Option (outDen R17 O17) := sh Try.prog (envOf (env17 K)) (piecesOf (ps17 K)) b17 [] ⟨pad 28 (encSlots (fun i => i) A17 (inArgs I17 x)), encObjs (fun i => i) I17 (inObjs I17 x), oids I17⟩ (fin Try.prog Try.f17.results.toList I17 R17 O17)
theorem q17 : Try.f17.body = some b17 := by kernel_rfl
theorem e17 (K : Nat) (x : inDen A17 I17) : F17 K x = sh Try.prog (envOf (env17 K)) (piecesOf (ps17 K)) b17 [] (atEntry Try.f17 A17 I17 x) (fin Try.prog Try.f17.results.toList I17 R17 O17) := by kernel_rfl
theorem con17 (K : Nat) : Con Try.prog 17 A17 I17 R17 O17 (F17 K) := con_entry Try.func17 q17 rfl (envOk17 K) (psOk17 K) (e17 K)

/- forkledger/forkledgerlaw2.write -/
abbrev A10 : List Pat := [.one (.sl (.int .u8)), .one (.sl (.pr (.int .i64) (.pr (.int .i64) (.pr (.int .u64) (.pr (.sl (.int .u8)) (.sl (.pr (.int .u8) (.pr (.int .u8) (.pr (.int .u8) (.pr (.int .u8) (.pr (.int .u8) (.pr (.int .u8) (.pr (.int .u8) (.int .u8))))))))))))))]
abbrev R10 : List RPat := [.one (.sl (.int .u8)), .one .bool]
abbrev I10 : List (Nat × OPat) := []
abbrev O10 : List (Nat × OPat) := []
noncomputable abbrev env10 (K : Nat) : List Entry := [⟨11, A11, I11, R11, O11, F11 K⟩, ⟨27, A27, I27, R27, O27, F27 K⟩, ⟨15, A15, I15, R15, O15, F15 K⟩, ⟨16, A16, I16, R16, O16, F16 K⟩, ⟨17, A17, I17, R17, O17, F17 K⟩]
theorem envOk10 (K : Nat) : EnvOk Try.prog (env10 K) := moreEnv (con11 K) (moreEnv (con27 K) (moreEnv (con15 K) (moreEnv (con16 K) (moreEnv (con17 K) (noEnv)))))
noncomputable def b10 : Code := bodyOf Try.f10
noncomputable def b10_3 : Code := loopBody (codeAt b10 [0, 1, 0, 1, 1])
abbrev s10_3 : Sh.Spec := ⟨⟨60, [(0, .one (.sl (.int .u8))), (1, .one (.sl (.pr (.int .i64) (.pr (.int .i64) (.pr (.int .u64) (.pr (.sl (.int .u8)) (.sl (.pr (.int .u8) (.pr (.int .u8) (.pr (.int .u8) (.pr (.int .u8) (.pr (.int .u8) (.pr (.int .u8) (.pr (.int .u8) (.int .u8))))))))))))))), (6, .one .bool), (7, .one (.int .i64))], [], []⟩, [], [⟨.exit 0, [], ⟨60, [(0, .one (.sl (.int .u8))), (6, .one .bool)], [], []⟩⟩]⟩
noncomputable def l10_3 (K : Nat) : Nat → s10_3.T.den → Option (xDen s10_3.X)
  | 0, _ => none
  | k + 1, x => sh Try.prog (envOf (env10 K)) (piecesOf []) b10_3 [] (s10_3.T.enc x) (again s10_3 (l10_3 K k))
noncomputable abbrev ps10_3 (K : Nat) : List PEntry := []
theorem psOk10_3 (K : Nat) : PiecesOk Try.prog b10_3 (ps10_3 K) := noPs
theorem c10_3 : codeAt b10 [0, 1, 0, 1, 1] = .loop b10_3 := by kernel_rfl
theorem z10_3 (K : Nat) (x : s10_3.T.den) : l10_3 K 0 x = none := rfl
theorem n10_3 (K k : Nat) (x : s10_3.T.den) : l10_3 K (k + 1) x = sh Try.prog (envOf (env10 K)) (piecesOf (ps10_3 K)) b10_3 [] (s10_3.T.enc x) (again s10_3 (l10_3 K k)) := by kernel_rfl
theorem p10_3 (K k : Nat) : ∀ C : Ctx, C.P = Try.prog → ∀ {R : Type}, PieceOk C (codeAt b10 [0, 1, 0, 1, 1]) (piece (R := R) s10_3 (l10_3 K k)) :=
  loop_entry c10_3 (envOk10 K) (ps := ps10_3) psOk10_3 (z10_3 K) K (n10_3 K) k
noncomputable abbrev ps10 (K : Nat) : List PEntry := [⟨[0, 1, 0, 1, 1], s10_3, l10_3 K K⟩]
theorem psOk10 (K : Nat) : PiecesOk Try.prog b10 (ps10 K) := morePs (p10_3 K K) (noPs)
noncomputable def F10 (K : Nat) (x : inDen A10 I10) : Option (outDen R10 O10) := sh Try.prog (envOf (env10 K)) (piecesOf (ps10 K)) b10 [] ⟨pad 60 (encSlots (fun i => i) A10 (inArgs I10 x)), encObjs (fun i => i) I10 (inObjs I10 x), oids I10⟩ (fin Try.prog Try.f10.results.toList I10 R10 O10)
theorem q10 : Try.f10.body = some b10 := by kernel_rfl
theorem e10 (K : Nat) (x : inDen A10 I10) : F10 K x = sh Try.prog (envOf (env10 K)) (piecesOf (ps10 K)) b10 [] (atEntry Try.f10 A10 I10 x) (fin Try.prog Try.f10.results.toList I10 R10 O10) := by kernel_rfl
theorem con10 (K : Nat) : Con Try.prog 10 A10 I10 R10 O10 (F10 K) := con_entry Try.func10 q10 rfl (envOk10 K) (psOk10 K) (e10 K)

/- forkledger/forkledgerlaw2.number -/
abbrev A12 : List Pat := [.agg (.pr (.int .i64) (.pr (.int .i64) (.pr (.int .u64) (.pr (.sl (.int .u8)) (.sl (.pr (.int .u8) (.pr (.int .u8) (.pr (.int .u8) (.pr (.int .u8) (.pr (.int .u8) (.pr (.int .u8) (.pr (.int .u8) (.int .u8)))))))))))))]
abbrev R12 : List RPat := [.one (.int .u64)]
abbrev I12 : List (Nat × OPat) := []
abbrev O12 : List (Nat × OPat) := []
noncomputable abbrev env12 (K : Nat) : List Entry := [⟨27, A27, I27, R27, O27, F27 K⟩]
theorem envOk12 (K : Nat) : EnvOk Try.prog (env12 K) := moreEnv (con27 K) (noEnv)
noncomputable def b12 : Code := bodyOf Try.f12
noncomputable abbrev ps12 (K : Nat) : List PEntry := []
theorem psOk12 (K : Nat) : PiecesOk Try.prog b12 (ps12 K) := noPs
noncomputable def F12 (K : Nat) (x : inDen A12 I12) : Option (outDen R12 O12) := sh Try.prog (envOf (env12 K)) (piecesOf (ps12 K)) b12 [] ⟨pad 17 (encSlots (fun i => i) A12 (inArgs I12 x)), encObjs (fun i => i) I12 (inObjs I12 x), oids I12⟩ (fin Try.prog Try.f12.results.toList I12 R12 O12)
theorem q12 : Try.f12.body = some b12 := by kernel_rfl
theorem e12 (K : Nat) (x : inDen A12 I12) : F12 K x = sh Try.prog (envOf (env12 K)) (piecesOf (ps12 K)) b12 [] (atEntry Try.f12 A12 I12 x) (fin Try.prog Try.f12.results.toList I12 R12 O12) := by kernel_rfl
theorem con12 (K : Nat) : Con Try.prog 12 A12 I12 R12 O12 (F12 K) := con_entry Try.func12 q12 rfl (envOk12 K) (psOk12 K) (e12 K)

/- forkledger/forkledgerlaw2.same -/
abbrev A13 : List Pat := [.one (.sl (.int .u8)), .one (.sl (.int .u8))]
abbrev R13 : List RPat := [.one .bool]
abbrev I13 : List (Nat × OPat) := []
abbrev O13 : List (Nat × OPat) := []
noncomputable abbrev env13 (K : Nat) : List Entry := []
theorem envOk13 (K : Nat) : EnvOk Try.prog (env13 K) := noEnv
noncomputable def b13 : Code := bodyOf Try.f13
noncomputable abbrev ps13 (K : Nat) : List PEntry := []
theorem psOk13 (K : Nat) : PiecesOk Try.prog b13 (ps13 K) := noPs
noncomputable def F13 (K : Nat) (x : inDen A13 I13) : Option (outDen R13 O13) := sh Try.prog (envOf (env13 K)) (piecesOf (ps13 K)) b13 [] ⟨pad 10 (encSlots (fun i => i) A13 (inArgs I13 x)), encObjs (fun i => i) I13 (inObjs I13 x), oids I13⟩ (fin Try.prog Try.f13.results.toList I13 R13 O13)
theorem q13 : Try.f13.body = some b13 := by kernel_rfl
theorem e13 (K : Nat) (x : inDen A13 I13) : F13 K x = sh Try.prog (envOf (env13 K)) (piecesOf (ps13 K)) b13 [] (atEntry Try.f13 A13 I13 x) (fin Try.prog Try.f13.results.toList I13 R13 O13) := by kernel_rfl
theorem con13 (K : Nat) : Con Try.prog 13 A13 I13 R13 O13 (F13 K) := con_entry Try.func13 q13 rfl (envOk13 K) (psOk13 K) (e13 K)

/- forkledger/forkledgerlaw2.names -/
abbrev A14 : List Pat := [.one (.sl (.pr (.int .u8) (.pr (.int .u8) (.pr (.int .u8) (.pr (.int .u8) (.pr (.int .u8) (.pr (.int .u8) (.pr (.int .u8) (.int .u8))))))))), .one (.sl (.pr (.int .u8) (.pr (.int .u8) (.pr (.int .u8) (.pr (.int .u8) (.pr (.int .u8) (.pr (.int .u8) (.pr (.int .u8) (.int .u8)))))))))]
abbrev R14 : List RPat := [.one .bool]
abbrev I14 : List (Nat × OPat) := []
abbrev O14 : List (Nat × OPat) := []
noncomputable abbrev env14 (K : Nat) : List Entry := []
theorem envOk14 (K : Nat) : EnvOk Try.prog (env14 K) := noEnv
noncomputable def b14 : Code := bodyOf Try.f14
noncomputable def b14_4 : Code := loopBody (codeAt b14 [0, 1, 0, 1, 1])
abbrev s14_4 : Sh.Spec := ⟨⟨26, [(0, .one (.sl (.pr (.int .u8) (.pr (.int .u8) (.pr (.int .u8) (.pr (.int .u8) (.pr (.int .u8) (.pr (.int .u8) (.pr (.int .u8) (.int .u8)))))))))), (1, .one (.sl (.pr (.int .u8) (.pr (.int .u8) (.pr (.int .u8) (.pr (.int .u8) (.pr (.int .u8) (.pr (.int .u8) (.pr (.int .u8) (.int .u8)))))))))), (5, .one (.int .i64))], [], []⟩, [], [⟨.exit 0, [], ⟨26, [], [], []⟩⟩, ⟨.ret, [], ⟨26, [(4, .one .bool)], [], []⟩⟩]⟩
noncomputable def l14_4 (K : Nat) : Nat → s14_4.T.den → Option (xDen s14_4.X)
  | 0, _ => none
  | k + 1, x => sh Try.prog (envOf (env14 K)) (piecesOf []) b14_4 [] (s14_4.T.enc x) (again s14_4 (l14_4 K k))
noncomputable abbrev ps14_4 (K : Nat) : List PEntry := []
theorem psOk14_4 (K : Nat) : PiecesOk Try.prog b14_4 (ps14_4 K) := noPs
theorem c14_4 : codeAt b14 [0, 1, 0, 1, 1] = .loop b14_4 := by kernel_rfl
theorem z14_4 (K : Nat) (x : s14_4.T.den) : l14_4 K 0 x = none := rfl
theorem n14_4 (K k : Nat) (x : s14_4.T.den) : l14_4 K (k + 1) x = sh Try.prog (envOf (env14 K)) (piecesOf (ps14_4 K)) b14_4 [] (s14_4.T.enc x) (again s14_4 (l14_4 K k)) := by kernel_rfl
theorem p14_4 (K k : Nat) : ∀ C : Ctx, C.P = Try.prog → ∀ {R : Type}, PieceOk C (codeAt b14 [0, 1, 0, 1, 1]) (piece (R := R) s14_4 (l14_4 K k)) :=
  loop_entry c14_4 (envOk14 K) (ps := ps14_4) psOk14_4 (z14_4 K) K (n14_4 K) k
noncomputable abbrev ps14 (K : Nat) : List PEntry := [⟨[0, 1, 0, 1, 1], s14_4, l14_4 K K⟩]
theorem psOk14 (K : Nat) : PiecesOk Try.prog b14 (ps14 K) := morePs (p14_4 K K) (noPs)
noncomputable def F14 (K : Nat) (x : inDen A14 I14) : Option (outDen R14 O14) := sh Try.prog (envOf (env14 K)) (piecesOf (ps14 K)) b14 [] ⟨pad 26 (encSlots (fun i => i) A14 (inArgs I14 x)), encObjs (fun i => i) I14 (inObjs I14 x), oids I14⟩ (fin Try.prog Try.f14.results.toList I14 R14 O14)
theorem q14 : Try.f14.body = some b14 := by kernel_rfl
theorem e14 (K : Nat) (x : inDen A14 I14) : F14 K x = sh Try.prog (envOf (env14 K)) (piecesOf (ps14 K)) b14 [] (atEntry Try.f14 A14 I14 x) (fin Try.prog Try.f14.results.toList I14 R14 O14) := by kernel_rfl
theorem con14 (K : Nat) : Con Try.prog 14 A14 I14 R14 O14 (F14 K) := con_entry Try.func14 q14 rfl (envOk14 K) (psOk14 K) (e14 K)

/- forkledger/forkledgerlaw2.CodecApart -/
abbrev A3 : List Pat := [.one (.sl (.pr (.int .i64) (.pr (.int .i64) (.pr (.int .u64) (.pr (.sl (.int .u8)) (.sl (.pr (.int .u8) (.pr (.int .u8) (.pr (.int .u8) (.pr (.int .u8) (.pr (.int .u8) (.pr (.int .u8) (.pr (.int .u8) (.int .u8)))))))))))))), .one (.int .i64), .agg (.pr (.int .i64) (.pr (.int .i64) (.pr (.int .u64) (.pr (.sl (.int .u8)) (.sl (.pr (.int .u8) (.pr (.int .u8) (.pr (.int .u8) (.pr (.int .u8) (.pr (.int .u8) (.pr (.int .u8) (.pr (.int .u8) (.int .u8)))))))))))))]
abbrev R3 : List RPat := [.one .bool]
abbrev I3 : List (Nat × OPat) := []
abbrev O3 : List (Nat × OPat) := []
noncomputable abbrev env3 (K : Nat) : List Entry := [⟨9, A9, I9, R9, O9, F9 K⟩, ⟨10, A10, I10, R10, O10, F10 K⟩, ⟨11, A11, I11, R11, O11, F11 K⟩, ⟨12, A12, I12, R12, O12, F12 K⟩, ⟨13, A13, I13, R13, O13, F13 K⟩, ⟨14, A14, I14, R14, O14, F14 K⟩]
theorem envOk3 (K : Nat) : EnvOk Try.prog (env3 K) := moreEnv (con9 K) (moreEnv (con10 K) (moreEnv (con11 K) (moreEnv (con12 K) (moreEnv (con13 K) (moreEnv (con14 K) (noEnv))))))
noncomputable def b3 : Code := bodyOf Try.f3
noncomputable abbrev ps3 (K : Nat) : List PEntry := []
theorem psOk3 (K : Nat) : PiecesOk Try.prog b3 (ps3 K) := noPs
noncomputable def F3 (K : Nat) (x : inDen A3 I3) : Option (outDen R3 O3) := sh Try.prog (envOf (env3 K)) (piecesOf (ps3 K)) b3 [] ⟨pad 103 (encSlots (fun i => i) A3 (inArgs I3 x)), encObjs (fun i => i) I3 (inObjs I3 x), oids I3⟩ (fin Try.prog Try.f3.results.toList I3 R3 O3)
theorem q3 : Try.f3.body = some b3 := by kernel_rfl
theorem e3 (K : Nat) (x : inDen A3 I3) : F3 K x = sh Try.prog (envOf (env3 K)) (piecesOf (ps3 K)) b3 [] (atEntry Try.f3 A3 I3 x) (fin Try.prog Try.f3.results.toList I3 R3 O3) := by kernel_rfl
theorem con3 (K : Nat) : Con Try.prog 3 A3 I3 R3 O3 (F3 K) := con_entry Try.func3 q3 rfl (envOk3 K) (psOk3 K) (e3 K)

/- forkledger/codec.follow -/
abbrev A29 : List Pat := [.one (.sl (.int .u8)), .one (.int .i64), .one (.int .i64)]
abbrev R29 : List RPat := [.one .bool]
abbrev I29 : List (Nat × OPat) := []
abbrev O29 : List (Nat × OPat) := []
noncomputable abbrev env29 (K : Nat) : List Entry := []
theorem envOk29 (K : Nat) : EnvOk Try.prog (env29 K) := noEnv
noncomputable def b29 : Code := bodyOf Try.f29
noncomputable abbrev ps29 (K : Nat) : List PEntry := []
theorem psOk29 (K : Nat) : PiecesOk Try.prog b29 (ps29 K) := noPs
noncomputable def F29 (K : Nat) (x : inDen A29 I29) : Option (outDen R29 O29) := sh Try.prog (envOf (env29 K)) (piecesOf (ps29 K)) b29 [] ⟨pad 23 (encSlots (fun i => i) A29 (inArgs I29 x)), encObjs (fun i => i) I29 (inObjs I29 x), oids I29⟩ (fin Try.prog Try.f29.results.toList I29 R29 O29)
theorem q29 : Try.f29.body = some b29 := by kernel_rfl
theorem e29 (K : Nat) (x : inDen A29 I29) : F29 K x = sh Try.prog (envOf (env29 K)) (piecesOf (ps29 K)) b29 [] (atEntry Try.f29 A29 I29 x) (fin Try.prog Try.f29.results.toList I29 R29 O29) := by kernel_rfl
theorem con29 (K : Nat) : Con Try.prog 29 A29 I29 R29 O29 (F29 K) := con_entry Try.func29 q29 rfl (envOk29 K) (psOk29 K) (e29 K)

/- forkledger/codec.Uint -/
abbrev A18 : List Pat := [.one (.sl (.int .u8)), .one (.int .i64), .one (.int .i64)]
abbrev R18 : List RPat := [.one (.int .u64), .one .bool]
abbrev I18 : List (Nat × OPat) := []
abbrev O18 : List (Nat × OPat) := []
noncomputable abbrev env18 (K : Nat) : List Entry := [⟨29, A29, I29, R29, O29, F29 K⟩]
theorem envOk18 (K : Nat) : EnvOk Try.prog (env18 K) := moreEnv (con29 K) (noEnv)
noncomputable def b18 : Code := bodyOf Try.f18
noncomputable def b18_5 : Code := loopBody (codeAt b18 [0, 1, 0, 1, 1, 1])
abbrev s18_5 : Sh.Spec := ⟨⟨42, [(8, .one (.int .u64)), (29, .one (.sl (.int .u8))), (30, .one (.int .i64)), (31, .one (.int .i64))], [], []⟩, [], [⟨.exit 0, [], ⟨42, [(8, .one (.int .u64))], [], []⟩⟩]⟩
noncomputable def l18_5 (K : Nat) : Nat → s18_5.T.den → Option (xDen s18_5.X)
  | 0, _ => none
  | k + 1, x => sh Try.prog (envOf (env18 K)) (piecesOf []) b18_5 [] (s18_5.T.enc x) (again s18_5 (l18_5 K k))
noncomputable abbrev ps18_5 (K : Nat) : List PEntry := []
theorem psOk18_5 (K : Nat) : PiecesOk Try.prog b18_5 (ps18_5 K) := noPs
theorem c18_5 : codeAt b18 [0, 1, 0, 1, 1, 1] = .loop b18_5 := by kernel_rfl
theorem z18_5 (K : Nat) (x : s18_5.T.den) : l18_5 K 0 x = none := rfl
theorem n18_5 (K k : Nat) (x : s18_5.T.den) : l18_5 K (k + 1) x = sh Try.prog (envOf (env18 K)) (piecesOf (ps18_5 K)) b18_5 [] (s18_5.T.enc x) (again s18_5 (l18_5 K k)) := by kernel_rfl
theorem p18_5 (K k : Nat) : ∀ C : Ctx, C.P = Try.prog → ∀ {R : Type}, PieceOk C (codeAt b18 [0, 1, 0, 1, 1, 1]) (piece (R := R) s18_5 (l18_5 K k)) :=
  loop_entry c18_5 (envOk18 K) (ps := ps18_5) psOk18_5 (z18_5 K) K (n18_5 K) k
noncomputable abbrev ps18 (K : Nat) : List PEntry := [⟨[0, 1, 0, 1, 1, 1], s18_5, l18_5 K K⟩]
theorem psOk18 (K : Nat) : PiecesOk Try.prog b18 (ps18 K) := morePs (p18_5 K K) (noPs)
noncomputable def F18 (K : Nat) (x : inDen A18 I18) : Option (outDen R18 O18) := sh Try.prog (envOf (env18 K)) (piecesOf (ps18 K)) b18 [] ⟨pad 42 (encSlots (fun i => i) A18 (inArgs I18 x)), encObjs (fun i => i) I18 (inObjs I18 x), oids I18⟩ (fin Try.prog Try.f18.results.toList I18 R18 O18)
theorem q18 : Try.f18.body = some b18 := by kernel_rfl
theorem e18 (K : Nat) (x : inDen A18 I18) : F18 K x = sh Try.prog (envOf (env18 K)) (piecesOf (ps18 K)) b18 [] (atEntry Try.f18 A18 I18 x) (fin Try.prog Try.f18.results.toList I18 R18 O18) := by kernel_rfl
theorem con18 (K : Nat) : Con Try.prog 18 A18 I18 R18 O18 (F18 K) := con_entry Try.func18 q18 rfl (envOk18 K) (psOk18 K) (e18 K)

/- forkledger/forkledgerref1.Uint -/
abbrev A19 : List Pat := [.one (.sl (.int .u8)), .one (.int .i64), .one (.int .i64)]
abbrev R19 : List RPat := [.one (.int .u64), .one .bool]
abbrev I19 : List (Nat × OPat) := []
abbrev O19 : List (Nat × OPat) := []
noncomputable abbrev env19 (K : Nat) : List Entry := []
theorem envOk19 (K : Nat) : EnvOk Try.prog (env19 K) := noEnv
noncomputable def b19 : Code := bodyOf Try.f19
noncomputable def b19_5 : Code := loopBody (codeAt b19 [0, 1, 0, 1, 1, 1])
abbrev s19_5 : Sh.Spec := ⟨⟨44, [(0, .one (.sl (.int .u8))), (1, .one (.int .i64)), (2, .one (.int .i64)), (8, .one (.int .u64)), (9, .one (.int .i64))], [], []⟩, [], [⟨.exit 0, [], ⟨44, [(8, .one (.int .u64))], [], []⟩⟩]⟩
noncomputable def l19_5 (K : Nat) : Nat → s19_5.T.den → Option (xDen s19_5.X)
  | 0, _ => none
  | k + 1, x => sh Try.prog (envOf (env19 K)) (piecesOf []) b19_5 [] (s19_5.T.enc x) (again s19_5 (l19_5 K k))
noncomputable abbrev ps19_5 (K : Nat) : List PEntry := []
theorem psOk19_5 (K : Nat) : PiecesOk Try.prog b19_5 (ps19_5 K) := noPs
theorem c19_5 : codeAt b19 [0, 1, 0, 1, 1, 1] = .loop b19_5 := by kernel_rfl
theorem z19_5 (K : Nat) (x : s19_5.T.den) : l19_5 K 0 x = none := rfl
theorem n19_5 (K k : Nat) (x : s19_5.T.den) : l19_5 K (k + 1) x = sh Try.prog (envOf (env19 K)) (piecesOf (ps19_5 K)) b19_5 [] (s19_5.T.enc x) (again s19_5 (l19_5 K k)) := by kernel_rfl
theorem p19_5 (K k : Nat) : ∀ C : Ctx, C.P = Try.prog → ∀ {R : Type}, PieceOk C (codeAt b19 [0, 1, 0, 1, 1, 1]) (piece (R := R) s19_5 (l19_5 K k)) :=
  loop_entry c19_5 (envOk19 K) (ps := ps19_5) psOk19_5 (z19_5 K) K (n19_5 K) k
noncomputable abbrev ps19 (K : Nat) : List PEntry := [⟨[0, 1, 0, 1, 1, 1], s19_5, l19_5 K K⟩]
theorem psOk19 (K : Nat) : PiecesOk Try.prog b19 (ps19 K) := morePs (p19_5 K K) (noPs)
noncomputable def F19 (K : Nat) (x : inDen A19 I19) : Option (outDen R19 O19) := sh Try.prog (envOf (env19 K)) (piecesOf (ps19 K)) b19 [] ⟨pad 44 (encSlots (fun i => i) A19 (inArgs I19 x)), encObjs (fun i => i) I19 (inObjs I19 x), oids I19⟩ (fin Try.prog Try.f19.results.toList I19 R19 O19)
theorem q19 : Try.f19.body = some b19 := by kernel_rfl
theorem e19 (K : Nat) (x : inDen A19 I19) : F19 K x = sh Try.prog (envOf (env19 K)) (piecesOf (ps19 K)) b19 [] (atEntry Try.f19 A19 I19 x) (fin Try.prog Try.f19.results.toList I19 R19 O19) := by kernel_rfl
theorem con19 (K : Nat) : Con Try.prog 19 A19 I19 R19 O19 (F19 K) := con_entry Try.func19 q19 rfl (envOk19 K) (psOk19 K) (e19 K)

/- forkledger/forkledgerref1.AppendUint -/
abbrev A20 : List Pat := [.one (.sl (.int .u8)), .one (.int .u64), .one (.int .i64)]
abbrev R20 : List RPat := [.own 5 (.int .u8)]
abbrev I20 : List (Nat × OPat) := []
abbrev O20 : List (Nat × OPat) := []
noncomputable abbrev env20 (K : Nat) : List Entry := []
theorem envOk20 (K : Nat) : EnvOk Try.prog (env20 K) := noEnv
noncomputable def b20 : Code := bodyOf Try.f20
noncomputable def b20_3 : Code := loopBody (codeAt b20 [0, 1, 0, 1, 1])
abbrev s20_3 : Sh.Spec := ⟨⟨30, [(1, .one (.int .u64)), (7, .own 5007), (8, .one (.int .i64))], [(5007, .arr 5 (.int .u8))], []⟩, [(7, 5007, 5, (.int .u8))], [⟨.exit 0, [(7, 5007, 5, (.int .u8))], ⟨30, [(7, .own 5007)], [(5007, .arr 5 (.int .u8))], []⟩⟩]⟩
noncomputable def l20_3 (K : Nat) : Nat → s20_3.T.den → Option (xDen s20_3.X)
  | 0, _ => none
  | k + 1, x => sh Try.prog (envOf (env20 K)) (piecesOf []) b20_3 [] (s20_3.T.enc x) (again s20_3 (l20_3 K k))
noncomputable abbrev ps20_3 (K : Nat) : List PEntry := []
theorem psOk20_3 (K : Nat) : PiecesOk Try.prog b20_3 (ps20_3 K) := noPs
theorem c20_3 : codeAt b20 [0, 1, 0, 1, 1] = .loop b20_3 := by kernel_rfl
theorem z20_3 (K : Nat) (x : s20_3.T.den) : l20_3 K 0 x = none := rfl
theorem n20_3 (K k : Nat) (x : s20_3.T.den) : l20_3 K (k + 1) x = sh Try.prog (envOf (env20 K)) (piecesOf (ps20_3 K)) b20_3 [] (s20_3.T.enc x) (again s20_3 (l20_3 K k)) := by kernel_rfl
theorem p20_3 (K k : Nat) : ∀ C : Ctx, C.P = Try.prog → ∀ {R : Type}, PieceOk C (codeAt b20 [0, 1, 0, 1, 1]) (piece (R := R) s20_3 (l20_3 K k)) :=
  loop_entry c20_3 (envOk20 K) (ps := ps20_3) psOk20_3 (z20_3 K) K (n20_3 K) k
noncomputable abbrev ps20 (K : Nat) : List PEntry := [⟨[0, 1, 0, 1, 1], s20_3, l20_3 K K⟩]
theorem psOk20 (K : Nat) : PiecesOk Try.prog b20 (ps20 K) := morePs (p20_3 K K) (noPs)
noncomputable def F20 (K : Nat) (x : inDen A20 I20) : Option (outDen R20 O20) := sh Try.prog (envOf (env20 K)) (piecesOf (ps20 K)) b20 [] ⟨pad 30 (encSlots (fun i => i) A20 (inArgs I20 x)), encObjs (fun i => i) I20 (inObjs I20 x), oids I20⟩ (fin Try.prog Try.f20.results.toList I20 R20 O20)
theorem q20 : Try.f20.body = some b20 := by kernel_rfl
theorem e20 (K : Nat) (x : inDen A20 I20) : F20 K x = sh Try.prog (envOf (env20 K)) (piecesOf (ps20 K)) b20 [] (atEntry Try.f20 A20 I20 x) (fin Try.prog Try.f20.results.toList I20 R20 O20) := by kernel_rfl
theorem con20 (K : Nat) : Con Try.prog 20 A20 I20 R20 O20 (F20 K) := con_entry Try.func20 q20 rfl (envOk20 K) (psOk20 K) (e20 K)

/- forkledger/forkledgerlaw2.CodecNumbers -/
abbrev A5 : List Pat := [.one (.sl (.int .u8)), .one (.int .u64), .one (.int .i64), .one (.int .i64), .one (.int .i64)]
abbrev R5 : List RPat := [.one .bool]
abbrev I5 : List (Nat × OPat) := []
abbrev O5 : List (Nat × OPat) := []
noncomputable abbrev env5 (K : Nat) : List Entry := [⟨18, A18, I18, R18, O18, F18 K⟩, ⟨19, A19, I19, R19, O19, F19 K⟩, ⟨15, A15, I15, R15, O15, F15 K⟩, ⟨20, A20, I20, R20, O20, F20 K⟩, ⟨13, A13, I13, R13, O13, F13 K⟩, ⟨9, A9, I9, R9, O9, F9 K⟩]
theorem envOk5 (K : Nat) : EnvOk Try.prog (env5 K) := moreEnv (con18 K) (moreEnv (con19 K) (moreEnv (con15 K) (moreEnv (con20 K) (moreEnv (con13 K) (moreEnv (con9 K) (noEnv))))))
noncomputable def b5 : Code := bodyOf Try.f5
noncomputable abbrev ps5 (K : Nat) : List PEntry := []
theorem psOk5 (K : Nat) : PiecesOk Try.prog b5 (ps5 K) := noPs
noncomputable def F5 (K : Nat) (x : inDen A5 I5) : Option (outDen R5 O5) := sh Try.prog (envOf (env5 K)) (piecesOf (ps5 K)) b5 [] ⟨pad 51 (encSlots (fun i => i) A5 (inArgs I5 x)), encObjs (fun i => i) I5 (inObjs I5 x), oids I5⟩ (fin Try.prog Try.f5.results.toList I5 R5 O5)
theorem q5 : Try.f5.body = some b5 := by kernel_rfl
theorem e5 (K : Nat) (x : inDen A5 I5) : F5 K x = sh Try.prog (envOf (env5 K)) (piecesOf (ps5 K)) b5 [] (atEntry Try.f5 A5 I5 x) (fin Try.prog Try.f5.results.toList I5 R5 O5) := by kernel_rfl
theorem con5 (K : Nat) : Con Try.prog 5 A5 I5 R5 O5 (F5 K) := con_entry Try.func5 q5 rfl (envOk5 K) (psOk5 K) (e5 K)

/- forkledger/forkledgerref1.AppendBytes -/
abbrev A21 : List Pat := [.one (.sl (.int .u8)), .one (.sl (.int .u8))]
abbrev R21 : List RPat := [.own 5 (.int .u8), .one .bool]
abbrev I21 : List (Nat × OPat) := []
abbrev O21 : List (Nat × OPat) := []
noncomputable abbrev env21 (K : Nat) : List Entry := [⟨20, A20, I20, R20, O20, F20 K⟩]
theorem envOk21 (K : Nat) : EnvOk Try.prog (env21 K) := moreEnv (con20 K) (noEnv)
noncomputable def b21 : Code := bodyOf Try.f21
noncomputable abbrev ps21 (K : Nat) : List PEntry := []
theorem psOk21 (K : Nat) : PiecesOk Try.prog b21 (ps21 K) := noPs
noncomputable def F21 (K : Nat) (x : inDen A21 I21) : Option (outDen R21 O21) := sh Try.prog (envOf (env21 K)) (piecesOf (ps21 K)) b21 [] ⟨pad 16 (encSlots (fun i => i) A21 (inArgs I21 x)), encObjs (fun i => i) I21 (inObjs I21 x), oids I21⟩ (fin Try.prog Try.f21.results.toList I21 R21 O21)
theorem q21 : Try.f21.body = some b21 := by kernel_rfl
theorem e21 (K : Nat) (x : inDen A21 I21) : F21 K x = sh Try.prog (envOf (env21 K)) (piecesOf (ps21 K)) b21 [] (atEntry Try.f21 A21 I21 x) (fin Try.prog Try.f21.results.toList I21 R21 O21) := by kernel_rfl
theorem con21 (K : Nat) : Con Try.prog 21 A21 I21 R21 O21 (F21 K) := con_entry Try.func21 q21 rfl (envOk21 K) (psOk21 K) (e21 K)

/- forkledger/codec.Bytes -/
abbrev A22 : List Pat := [.one (.sl (.int .u8)), .one (.int .i64)]
abbrev R22 : List RPat := [.own 5 (.int .u8), .one (.int .i64), .one .bool]
abbrev I22 : List (Nat × OPat) := []
abbrev O22 : List (Nat × OPat) := []
noncomputable abbrev env22 (K : Nat) : List Entry := [⟨18, A18, I18, R18, O18, F18 K⟩, ⟨29, A29, I29, R29, O29, F29 K⟩]
theorem envOk22 (K : Nat) : EnvOk Try.prog (env22 K) := moreEnv (con18 K) (moreEnv (con29 K) (noEnv))
noncomputable def b22 : Code := bodyOf Try.f22
noncomputable abbrev ps22 (K : Nat) : List PEntry := []
theorem psOk22 (K : Nat) : PiecesOk Try.prog b22 (ps22 K) := noPs
noncomputable def F22 (K : Nat) (x : inDen A22 I22) : Option (outDen R22 O22) := sh Try.prog (envOf (env22 K)) (piecesOf (ps22 K)) b22 [] ⟨pad 39 (encSlots (fun i => i) A22 (inArgs I22 x)), encObjs (fun i => i) I22 (inObjs I22 x), oids I22⟩ (fin Try.prog Try.f22.results.toList I22 R22 O22)
theorem q22 : Try.f22.body = some b22 := by kernel_rfl
theorem e22 (K : Nat) (x : inDen A22 I22) : F22 K x = sh Try.prog (envOf (env22 K)) (piecesOf (ps22 K)) b22 [] (atEntry Try.f22 A22 I22 x) (fin Try.prog Try.f22.results.toList I22 R22 O22) := by kernel_rfl
theorem con22 (K : Nat) : Con Try.prog 22 A22 I22 R22 O22 (F22 K) := con_entry Try.func22 q22 rfl (envOk22 K) (psOk22 K) (e22 K)

/- forkledger/forkledgerref1.Bytes -/
abbrev A23 : List Pat := [.one (.sl (.int .u8)), .one (.int .i64)]
abbrev R23 : List RPat := [.own 5 (.int .u8), .one (.int .i64), .one .bool]
abbrev I23 : List (Nat × OPat) := []
abbrev O23 : List (Nat × OPat) := []
noncomputable abbrev env23 (K : Nat) : List Entry := [⟨19, A19, I19, R19, O19, F19 K⟩]
theorem envOk23 (K : Nat) : EnvOk Try.prog (env23 K) := moreEnv (con19 K) (noEnv)
noncomputable def b23 : Code := bodyOf Try.f23
noncomputable abbrev ps23 (K : Nat) : List PEntry := []
theorem psOk23 (K : Nat) : PiecesOk Try.prog b23 (ps23 K) := noPs
noncomputable def F23 (K : Nat) (x : inDen A23 I23) : Option (outDen R23 O23) := sh Try.prog (envOf (env23 K)) (piecesOf (ps23 K)) b23 [] ⟨pad 41 (encSlots (fun i => i) A23 (inArgs I23 x)), encObjs (fun i => i) I23 (inObjs I23 x), oids I23⟩ (fin Try.prog Try.f23.results.toList I23 R23 O23)
theorem q23 : Try.f23.body = some b23 := by kernel_rfl
theorem e23 (K : Nat) (x : inDen A23 I23) : F23 K x = sh Try.prog (envOf (env23 K)) (piecesOf (ps23 K)) b23 [] (atEntry Try.f23 A23 I23 x) (fin Try.prog Try.f23.results.toList I23 R23 O23) := by kernel_rfl
theorem con23 (K : Nat) : Con Try.prog 23 A23 I23 R23 O23 (F23 K) := con_entry Try.func23 q23 rfl (envOk23 K) (psOk23 K) (e23 K)

/- forkledger/forkledgerlaw2.CodecStrings -/
abbrev A6 : List Pat := [.one (.sl (.int .u8)), .one (.sl (.int .u8)), .one (.int .i64), .one (.int .i64)]
abbrev R6 : List RPat := [.one .bool]
abbrev I6 : List (Nat × OPat) := []
abbrev O6 : List (Nat × OPat) := []
noncomputable abbrev env6 (K : Nat) : List Entry := [⟨16, A16, I16, R16, O16, F16 K⟩, ⟨21, A21, I21, R21, O21, F21 K⟩, ⟨22, A22, I22, R22, O22, F22 K⟩, ⟨23, A23, I23, R23, O23, F23 K⟩, ⟨13, A13, I13, R13, O13, F13 K⟩, ⟨9, A9, I9, R9, O9, F9 K⟩]
theorem envOk6 (K : Nat) : EnvOk Try.prog (env6 K) := moreEnv (con16 K) (moreEnv (con21 K) (moreEnv (con22 K) (moreEnv (con23 K) (moreEnv (con13 K) (moreEnv (con9 K) (noEnv))))))
noncomputable def b6 : Code := bodyOf Try.f6
noncomputable abbrev ps6 (K : Nat) : List PEntry := []
theorem psOk6 (K : Nat) : PiecesOk Try.prog b6 (ps6 K) := noPs
noncomputable def F6 (K : Nat) (x : inDen A6 I6) : Option (outDen R6 O6) := sh Try.prog (envOf (env6 K)) (piecesOf (ps6 K)) b6 [] ⟨pad 80 (encSlots (fun i => i) A6 (inArgs I6 x)), encObjs (fun i => i) I6 (inObjs I6 x), oids I6⟩ (fin Try.prog Try.f6.results.toList I6 R6 O6)
theorem q6 : Try.f6.body = some b6 := by kernel_rfl
theorem e6 (K : Nat) (x : inDen A6 I6) : F6 K x = sh Try.prog (envOf (env6 K)) (piecesOf (ps6 K)) b6 [] (atEntry Try.f6 A6 I6 x) (fin Try.prog Try.f6.results.toList I6 R6 O6) := by kernel_rfl
theorem con6 (K : Nat) : Con Try.prog 6 A6 I6 R6 O6 (F6 K) := con_entry Try.func6 q6 rfl (envOk6 K) (psOk6 K) (e6 K)

/- forkledger/forkledgerref1.AppendNames -/
abbrev A24 : List Pat := [.one (.sl (.int .u8)), .one (.sl (.pr (.int .u8) (.pr (.int .u8) (.pr (.int .u8) (.pr (.int .u8) (.pr (.int .u8) (.pr (.int .u8) (.pr (.int .u8) (.int .u8)))))))))]
abbrev R24 : List RPat := [.own 5 (.int .u8), .one .bool]
abbrev I24 : List (Nat × OPat) := []
abbrev O24 : List (Nat × OPat) := []
noncomputable abbrev env24 (K : Nat) : List Entry := [⟨20, A20, I20, R20, O20, F20 K⟩]
theorem envOk24 (K : Nat) : EnvOk Try.prog (env24 K) := moreEnv (con20 K) (noEnv)
noncomputable def b24 : Code := bodyOf Try.f24
noncomputable def b24_5 : Code := loopBody (codeAt b24 [0, 1, 0, 1, 1, 1])
abbrev s24_5 : Sh.Spec := ⟨⟨29, [(1, .one (.sl (.pr (.int .u8) (.pr (.int .u8) (.pr (.int .u8) (.pr (.int .u8) (.pr (.int .u8) (.pr (.int .u8) (.pr (.int .u8) (.int .u8)))))))))), (6, .own 5006), (7, .one (.int .i64))], [(5006, .arr 5 (.int .u8))], []⟩, [(6, 5006, 5, (.int .u8))], [⟨.exit 0, [(6, 5006, 5, (.int .u8))], ⟨29, [(6, .own 5006)], [(5006, .arr 5 (.int .u8))], []⟩⟩]⟩
noncomputable def l24_5 (K : Nat) : Nat → s24_5.T.den → Option (xDen s24_5.X)
  | 0, _ => none
  | k + 1, x => sh Try.prog (envOf (env24 K)) (piecesOf []) b24_5 [] (s24_5.T.enc x) (again s24_5 (l24_5 K k))
noncomputable abbrev ps24_5 (K : Nat) : List PEntry := []
theorem psOk24_5 (K : Nat) : PiecesOk Try.prog b24_5 (ps24_5 K) := noPs
theorem c24_5 : codeAt b24 [0, 1, 0, 1, 1, 1] = .loop b24_5 := by kernel_rfl
theorem z24_5 (K : Nat) (x : s24_5.T.den) : l24_5 K 0 x = none := rfl
theorem n24_5 (K k : Nat) (x : s24_5.T.den) : l24_5 K (k + 1) x = sh Try.prog (envOf (env24 K)) (piecesOf (ps24_5 K)) b24_5 [] (s24_5.T.enc x) (again s24_5 (l24_5 K k)) := by kernel_rfl
theorem p24_5 (K k : Nat) : ∀ C : Ctx, C.P = Try.prog → ∀ {R : Type}, PieceOk C (codeAt b24 [0, 1, 0, 1, 1, 1]) (piece (R := R) s24_5 (l24_5 K k)) :=
  loop_entry c24_5 (envOk24 K) (ps := ps24_5) psOk24_5 (z24_5 K) K (n24_5 K) k
noncomputable abbrev ps24 (K : Nat) : List PEntry := [⟨[0, 1, 0, 1, 1, 1], s24_5, l24_5 K K⟩]
theorem psOk24 (K : Nat) : PiecesOk Try.prog b24 (ps24 K) := morePs (p24_5 K K) (noPs)
noncomputable def F24 (K : Nat) (x : inDen A24 I24) : Option (outDen R24 O24) := sh Try.prog (envOf (env24 K)) (piecesOf (ps24 K)) b24 [] ⟨pad 29 (encSlots (fun i => i) A24 (inArgs I24 x)), encObjs (fun i => i) I24 (inObjs I24 x), oids I24⟩ (fin Try.prog Try.f24.results.toList I24 R24 O24)
theorem q24 : Try.f24.body = some b24 := by kernel_rfl
theorem e24 (K : Nat) (x : inDen A24 I24) : F24 K x = sh Try.prog (envOf (env24 K)) (piecesOf (ps24 K)) b24 [] (atEntry Try.f24 A24 I24 x) (fin Try.prog Try.f24.results.toList I24 R24 O24) := by kernel_rfl
theorem con24 (K : Nat) : Con Try.prog 24 A24 I24 R24 O24 (F24 K) := con_entry Try.func24 q24 rfl (envOk24 K) (psOk24 K) (e24 K)

/- forkledger/codec.Names -/
abbrev A25 : List Pat := [.one (.sl (.int .u8)), .one (.int .i64)]
abbrev R25 : List RPat := [.own 53 (.pr (.int .u8) (.pr (.int .u8) (.pr (.int .u8) (.pr (.int .u8) (.pr (.int .u8) (.pr (.int .u8) (.pr (.int .u8) (.int .u8)))))))), .one (.int .i64), .one .bool]
abbrev I25 : List (Nat × OPat) := []
abbrev O25 : List (Nat × OPat) := []
noncomputable abbrev env25 (K : Nat) : List Entry := [⟨18, A18, I18, R18, O18, F18 K⟩, ⟨29, A29, I29, R29, O29, F29 K⟩]
theorem envOk25 (K : Nat) : EnvOk Try.prog (env25 K) := moreEnv (con18 K) (moreEnv (con29 K) (noEnv))
noncomputable def b25 : Code := bodyOf Try.f25
noncomputable def b25_7 : Code := loopBody (codeAt b25 [0, 1, 0, 1, 1, 1, 1, 1])
abbrev s25_7 : Sh.Spec := ⟨⟨51, [(0, .one (.sl (.int .u8))), (1, .one (.int .i64)), (9, .own 5009), (34, .one (.int .i64)), (35, .one (.int .i64))], [(5009, .arr 53 (.pr (.int .u8) (.pr (.int .u8) (.pr (.int .u8) (.pr (.int .u8) (.pr (.int .u8) (.pr (.int .u8) (.pr (.int .u8) (.int .u8)))))))))], []⟩, [(9, 5009, 53, (.pr (.int .u8) (.pr (.int .u8) (.pr (.int .u8) (.pr (.int .u8) (.pr (.int .u8) (.pr (.int .u8) (.pr (.int .u8) (.int .u8)))))))))], [⟨.exit 0, [(9, 5009, 53, (.pr (.int .u8) (.pr (.int .u8) (.pr (.int .u8) (.pr (.int .u8) (.pr (.int .u8) (.pr (.int .u8) (.pr (.int .u8) (.int .u8)))))))))], ⟨51, [(1, .one (.int .i64)), (9, .own 5009)], [(5009, .arr 53 (.pr (.int .u8) (.pr (.int .u8) (.pr (.int .u8) (.pr (.int .u8) (.pr (.int .u8) (.pr (.int .u8) (.pr (.int .u8) (.int .u8)))))))))], []⟩⟩]⟩
noncomputable def l25_7 (K : Nat) : Nat → s25_7.T.den → Option (xDen s25_7.X)
  | 0, _ => none
  | k + 1, x => sh Try.prog (envOf (env25 K)) (piecesOf []) b25_7 [] (s25_7.T.enc x) (again s25_7 (l25_7 K k))
noncomputable abbrev ps25_7 (K : Nat) : List PEntry := []
theorem psOk25_7 (K : Nat) : PiecesOk Try.prog b25_7 (ps25_7 K) := noPs
theorem c25_7 : codeAt b25 [0, 1, 0, 1, 1, 1, 1, 1] = .loop b25_7 := by kernel_rfl
theorem z25_7 (K : Nat) (x : s25_7.T.den) : l25_7 K 0 x = none := rfl
theorem n25_7 (K k : Nat) (x : s25_7.T.den) : l25_7 K (k + 1) x = sh Try.prog (envOf (env25 K)) (piecesOf (ps25_7 K)) b25_7 [] (s25_7.T.enc x) (again s25_7 (l25_7 K k)) := by kernel_rfl
theorem p25_7 (K k : Nat) : ∀ C : Ctx, C.P = Try.prog → ∀ {R : Type}, PieceOk C (codeAt b25 [0, 1, 0, 1, 1, 1, 1, 1]) (piece (R := R) s25_7 (l25_7 K k)) :=
  loop_entry c25_7 (envOk25 K) (ps := ps25_7) psOk25_7 (z25_7 K) K (n25_7 K) k
noncomputable abbrev ps25 (K : Nat) : List PEntry := [⟨[0, 1, 0, 1, 1, 1, 1, 1], s25_7, l25_7 K K⟩]
theorem psOk25 (K : Nat) : PiecesOk Try.prog b25 (ps25 K) := morePs (p25_7 K K) (noPs)
noncomputable def F25 (K : Nat) (x : inDen A25 I25) : Option (outDen R25 O25) := sh Try.prog (envOf (env25 K)) (piecesOf (ps25 K)) b25 [] ⟨pad 51 (encSlots (fun i => i) A25 (inArgs I25 x)), encObjs (fun i => i) I25 (inObjs I25 x), oids I25⟩ (fin Try.prog Try.f25.results.toList I25 R25 O25)
theorem q25 : Try.f25.body = some b25 := by kernel_rfl
theorem e25 (K : Nat) (x : inDen A25 I25) : F25 K x = sh Try.prog (envOf (env25 K)) (piecesOf (ps25 K)) b25 [] (atEntry Try.f25 A25 I25 x) (fin Try.prog Try.f25.results.toList I25 R25 O25) := by kernel_rfl
theorem con25 (K : Nat) : Con Try.prog 25 A25 I25 R25 O25 (F25 K) := con_entry Try.func25 q25 rfl (envOk25 K) (psOk25 K) (e25 K)

/- forkledger/forkledgerref1.Of -/
abbrev A30 : List Pat := [.one (.int .u64)]
abbrev R30 : List RPat := [.agg (.pr (.int .u8) (.pr (.int .u8) (.pr (.int .u8) (.pr (.int .u8) (.pr (.int .u8) (.pr (.int .u8) (.pr (.int .u8) (.int .u8))))))))]
abbrev I30 : List (Nat × OPat) := []
abbrev O30 : List (Nat × OPat) := []
noncomputable abbrev env30 (K : Nat) : List Entry := []
theorem envOk30 (K : Nat) : EnvOk Try.prog (env30 K) := noEnv
noncomputable def b30 : Code := bodyOf Try.f30
noncomputable abbrev ps30 (K : Nat) : List PEntry := []
theorem psOk30 (K : Nat) : PiecesOk Try.prog b30 (ps30 K) := noPs
noncomputable def F30 (K : Nat) (x : inDen A30 I30) : Option (outDen R30 O30) := sh Try.prog (envOf (env30 K)) (piecesOf (ps30 K)) b30 [] ⟨pad 27 (encSlots (fun i => i) A30 (inArgs I30 x)), encObjs (fun i => i) I30 (inObjs I30 x), oids I30⟩ (fin Try.prog Try.f30.results.toList I30 R30 O30)
theorem q30 : Try.f30.body = some b30 := by kernel_rfl
theorem e30 (K : Nat) (x : inDen A30 I30) : F30 K x = sh Try.prog (envOf (env30 K)) (piecesOf (ps30 K)) b30 [] (atEntry Try.f30 A30 I30 x) (fin Try.prog Try.f30.results.toList I30 R30 O30) := by kernel_rfl
theorem con30 (K : Nat) : Con Try.prog 30 A30 I30 R30 O30 (F30 K) := con_entry Try.func30 q30 rfl (envOk30 K) (psOk30 K) (e30 K)

/- forkledger/forkledgerref1.Names -/
abbrev A26 : List Pat := [.one (.sl (.int .u8)), .one (.int .i64)]
abbrev R26 : List RPat := [.own 53 (.pr (.int .u8) (.pr (.int .u8) (.pr (.int .u8) (.pr (.int .u8) (.pr (.int .u8) (.pr (.int .u8) (.pr (.int .u8) (.int .u8)))))))), .one (.int .i64), .one .bool]
abbrev I26 : List (Nat × OPat) := []
abbrev O26 : List (Nat × OPat) := []
noncomputable abbrev env26 (K : Nat) : List Entry := [⟨19, A19, I19, R19, O19, F19 K⟩, ⟨30, A30, I30, R30, O30, F30 K⟩]
theorem envOk26 (K : Nat) : EnvOk Try.prog (env26 K) := moreEnv (con19 K) (moreEnv (con30 K) (noEnv))
noncomputable def b26 : Code := bodyOf Try.f26
noncomputable def b26_6 : Code := loopBody (codeAt b26 [0, 1, 0, 1, 1, 1, 1])
abbrev s26_6 : Sh.Spec := ⟨⟨60, [(0, .one (.sl (.int .u8))), (1, .one (.int .i64)), (7, .one (.int .u64)), (9, .own 5009), (10, .one (.int .i64))], [(5009, .arr 53 (.pr (.int .u8) (.pr (.int .u8) (.pr (.int .u8) (.pr (.int .u8) (.pr (.int .u8) (.pr (.int .u8) (.pr (.int .u8) (.int .u8)))))))))], []⟩, [(9, 5009, 53, (.pr (.int .u8) (.pr (.int .u8) (.pr (.int .u8) (.pr (.int .u8) (.pr (.int .u8) (.pr (.int .u8) (.pr (.int .u8) (.int .u8)))))))))], [⟨.exit 0, [(9, 5009, 53, (.pr (.int .u8) (.pr (.int .u8) (.pr (.int .u8) (.pr (.int .u8) (.pr (.int .u8) (.pr (.int .u8) (.pr (.int .u8) (.int .u8)))))))))], ⟨60, [(1, .one (.int .i64)), (7, .one (.int .u64)), (9, .own 5009)], [(5009, .arr 53 (.pr (.int .u8) (.pr (.int .u8) (.pr (.int .u8) (.pr (.int .u8) (.pr (.int .u8) (.pr (.int .u8) (.pr (.int .u8) (.int .u8)))))))))], []⟩⟩]⟩
noncomputable def l26_6 (K : Nat) : Nat → s26_6.T.den → Option (xDen s26_6.X)
  | 0, _ => none
  | k + 1, x => sh Try.prog (envOf (env26 K)) (piecesOf []) b26_6 [] (s26_6.T.enc x) (again s26_6 (l26_6 K k))
noncomputable abbrev ps26_6 (K : Nat) : List PEntry := []
theorem psOk26_6 (K : Nat) : PiecesOk Try.prog b26_6 (ps26_6 K) := noPs
theorem c26_6 : codeAt b26 [0, 1, 0, 1, 1, 1, 1] = .loop b26_6 := by kernel_rfl
theorem z26_6 (K : Nat) (x : s26_6.T.den) : l26_6 K 0 x = none := rfl
theorem n26_6 (K k : Nat) (x : s26_6.T.den) : l26_6 K (k + 1) x = sh Try.prog (envOf (env26 K)) (piecesOf (ps26_6 K)) b26_6 [] (s26_6.T.enc x) (again s26_6 (l26_6 K k)) := by kernel_rfl
theorem p26_6 (K k : Nat) : ∀ C : Ctx, C.P = Try.prog → ∀ {R : Type}, PieceOk C (codeAt b26 [0, 1, 0, 1, 1, 1, 1]) (piece (R := R) s26_6 (l26_6 K k)) :=
  loop_entry c26_6 (envOk26 K) (ps := ps26_6) psOk26_6 (z26_6 K) K (n26_6 K) k
noncomputable abbrev ps26 (K : Nat) : List PEntry := [⟨[0, 1, 0, 1, 1, 1, 1], s26_6, l26_6 K K⟩]
theorem psOk26 (K : Nat) : PiecesOk Try.prog b26 (ps26 K) := morePs (p26_6 K K) (noPs)
noncomputable def F26 (K : Nat) (x : inDen A26 I26) : Option (outDen R26 O26) := sh Try.prog (envOf (env26 K)) (piecesOf (ps26 K)) b26 [] ⟨pad 60 (encSlots (fun i => i) A26 (inArgs I26 x)), encObjs (fun i => i) I26 (inObjs I26 x), oids I26⟩ (fin Try.prog Try.f26.results.toList I26 R26 O26)
theorem q26 : Try.f26.body = some b26 := by kernel_rfl
theorem e26 (K : Nat) (x : inDen A26 I26) : F26 K x = sh Try.prog (envOf (env26 K)) (piecesOf (ps26 K)) b26 [] (atEntry Try.f26 A26 I26 x) (fin Try.prog Try.f26.results.toList I26 R26 O26) := by kernel_rfl
theorem con26 (K : Nat) : Con Try.prog 26 A26 I26 R26 O26 (F26 K) := con_entry Try.func26 q26 rfl (envOk26 K) (psOk26 K) (e26 K)

/- forkledger/forkledgerlaw2.CodecNames -/
abbrev A7 : List Pat := [.one (.sl (.int .u8)), .one (.sl (.pr (.int .u8) (.pr (.int .u8) (.pr (.int .u8) (.pr (.int .u8) (.pr (.int .u8) (.pr (.int .u8) (.pr (.int .u8) (.int .u8))))))))), .one (.int .i64), .one (.int .i64)]
abbrev R7 : List RPat := [.one .bool]
abbrev I7 : List (Nat × OPat) := []
abbrev O7 : List (Nat × OPat) := []
noncomputable abbrev env7 (K : Nat) : List Entry := [⟨17, A17, I17, R17, O17, F17 K⟩, ⟨24, A24, I24, R24, O24, F24 K⟩, ⟨25, A25, I25, R25, O25, F25 K⟩, ⟨26, A26, I26, R26, O26, F26 K⟩, ⟨13, A13, I13, R13, O13, F13 K⟩, ⟨14, A14, I14, R14, O14, F14 K⟩, ⟨9, A9, I9, R9, O9, F9 K⟩]
theorem envOk7 (K : Nat) : EnvOk Try.prog (env7 K) := moreEnv (con17 K) (moreEnv (con24 K) (moreEnv (con25 K) (moreEnv (con26 K) (moreEnv (con13 K) (moreEnv (con14 K) (moreEnv (con9 K) (noEnv)))))))
noncomputable def b7 : Code := bodyOf Try.f7
noncomputable abbrev ps7 (K : Nat) : List PEntry := []
theorem psOk7 (K : Nat) : PiecesOk Try.prog b7 (ps7 K) := noPs
noncomputable def F7 (K : Nat) (x : inDen A7 I7) : Option (outDen R7 O7) := sh Try.prog (envOf (env7 K)) (piecesOf (ps7 K)) b7 [] ⟨pad 80 (encSlots (fun i => i) A7 (inArgs I7 x)), encObjs (fun i => i) I7 (inObjs I7 x), oids I7⟩ (fin Try.prog Try.f7.results.toList I7 R7 O7)
theorem q7 : Try.f7.body = some b7 := by kernel_rfl
theorem e7 (K : Nat) (x : inDen A7 I7) : F7 K x = sh Try.prog (envOf (env7 K)) (piecesOf (ps7 K)) b7 [] (atEntry Try.f7 A7 I7 x) (fin Try.prog Try.f7.results.toList I7 R7 O7) := by kernel_rfl
theorem con7 (K : Nat) : Con Try.prog 7 A7 I7 R7 O7 (F7 K) := con_entry Try.func7 q7 rfl (envOk7 K) (psOk7 K) (e7 K)

/- forkledger/forkledgerlaw2.CodecBack -/
abbrev A8 : List Pat := [.one (.sl (.int .u8)), .one (.sl (.pr (.int .i64) (.pr (.int .i64) (.pr (.int .u64) (.pr (.sl (.int .u8)) (.sl (.pr (.int .u8) (.pr (.int .u8) (.pr (.int .u8) (.pr (.int .u8) (.pr (.int .u8) (.pr (.int .u8) (.pr (.int .u8) (.int .u8))))))))))))))]
abbrev R8 : List RPat := [.one .bool]
abbrev I8 : List (Nat × OPat) := []
abbrev O8 : List (Nat × OPat) := []
noncomputable abbrev env8 (K : Nat) : List Entry := [⟨9, A9, I9, R9, O9, F9 K⟩, ⟨10, A10, I10, R10, O10, F10 K⟩, ⟨11, A11, I11, R11, O11, F11 K⟩, ⟨27, A27, I27, R27, O27, F27 K⟩, ⟨18, A18, I18, R18, O18, F18 K⟩, ⟨12, A12, I12, R12, O12, F12 K⟩, ⟨22, A22, I22, R22, O22, F22 K⟩, ⟨13, A13, I13, R13, O13, F13 K⟩, ⟨25, A25, I25, R25, O25, F25 K⟩, ⟨14, A14, I14, R14, O14, F14 K⟩]
theorem envOk8 (K : Nat) : EnvOk Try.prog (env8 K) := moreEnv (con9 K) (moreEnv (con10 K) (moreEnv (con11 K) (moreEnv (con27 K) (moreEnv (con18 K) (moreEnv (con12 K) (moreEnv (con22 K) (moreEnv (con13 K) (moreEnv (con25 K) (moreEnv (con14 K) (noEnv))))))))))
noncomputable def b8 : Code := bodyOf Try.f8
noncomputable def b8_6 : Code := loopBody (codeAt b8 [0, 1, 0, 0, 1, 0, 1, 1, 1])
abbrev s8_6 : Sh.Spec := ⟨⟨146, [(1, .one (.sl (.pr (.int .i64) (.pr (.int .i64) (.pr (.int .u64) (.pr (.sl (.int .u8)) (.sl (.pr (.int .u8) (.pr (.int .u8) (.pr (.int .u8) (.pr (.int .u8) (.pr (.int .u8) (.pr (.int .u8) (.pr (.int .u8) (.int .u8))))))))))))))), (7, .one (.int .i64))], [], []⟩, [], [⟨.exit 0, [], ⟨146, [], [], []⟩⟩, ⟨.ret, [], ⟨146, [(4, .one .bool)], [], []⟩⟩]⟩
noncomputable def l8_6 (K : Nat) : Nat → s8_6.T.den → Option (xDen s8_6.X)
  | 0, _ => none
  | k + 1, x => sh Try.prog (envOf (env8 K)) (piecesOf []) b8_6 [] (s8_6.T.enc x) (again s8_6 (l8_6 K k))
noncomputable abbrev ps8_6 (K : Nat) : List PEntry := []
theorem psOk8_6 (K : Nat) : PiecesOk Try.prog b8_6 (ps8_6 K) := noPs
theorem c8_6 : codeAt b8 [0, 1, 0, 0, 1, 0, 1, 1, 1] = .loop b8_6 := by kernel_rfl
theorem z8_6 (K : Nat) (x : s8_6.T.den) : l8_6 K 0 x = none := rfl
theorem n8_6 (K k : Nat) (x : s8_6.T.den) : l8_6 K (k + 1) x = sh Try.prog (envOf (env8 K)) (piecesOf (ps8_6 K)) b8_6 [] (s8_6.T.enc x) (again s8_6 (l8_6 K k)) := by kernel_rfl
theorem p8_6 (K k : Nat) : ∀ C : Ctx, C.P = Try.prog → ∀ {R : Type}, PieceOk C (codeAt b8 [0, 1, 0, 0, 1, 0, 1, 1, 1]) (piece (R := R) s8_6 (l8_6 K k)) :=
  loop_entry c8_6 (envOk8 K) (ps := ps8_6) psOk8_6 (z8_6 K) K (n8_6 K) k
noncomputable def b8_13 : Code := loopBody (codeAt b8 [0, 1, 0, 1, 1, 1, 1, 1])
abbrev s8_13 : Sh.Spec := ⟨⟨146, [(1, .one (.sl (.pr (.int .i64) (.pr (.int .i64) (.pr (.int .u64) (.pr (.sl (.int .u8)) (.sl (.pr (.int .u8) (.pr (.int .u8) (.pr (.int .u8) (.pr (.int .u8) (.pr (.int .u8) (.pr (.int .u8) (.pr (.int .u8) (.int .u8))))))))))))))), (5, .one (.sl (.int .u8))), (8, .one (.int .i64)), (9, .one (.int .i64))], [], []⟩, [], [⟨.exit 2, [], ⟨146, [(5, .one (.sl (.int .u8))), (8, .one (.int .i64))], [], []⟩⟩, ⟨.ret, [], ⟨146, [(4, .one .bool)], [], []⟩⟩]⟩
noncomputable def l8_13 (K : Nat) : Nat → s8_13.T.den → Option (xDen s8_13.X)
  | 0, _ => none
  | k + 1, x => sh Try.prog (envOf (env8 K)) (piecesOf []) b8_13 [] (s8_13.T.enc x) (again s8_13 (l8_13 K k))
noncomputable abbrev ps8_13 (K : Nat) : List PEntry := []
theorem psOk8_13 (K : Nat) : PiecesOk Try.prog b8_13 (ps8_13 K) := noPs
theorem c8_13 : codeAt b8 [0, 1, 0, 1, 1, 1, 1, 1] = .loop b8_13 := by kernel_rfl
theorem z8_13 (K : Nat) (x : s8_13.T.den) : l8_13 K 0 x = none := rfl
theorem n8_13 (K k : Nat) (x : s8_13.T.den) : l8_13 K (k + 1) x = sh Try.prog (envOf (env8 K)) (piecesOf (ps8_13 K)) b8_13 [] (s8_13.T.enc x) (again s8_13 (l8_13 K k)) := by kernel_rfl
theorem p8_13 (K k : Nat) : ∀ C : Ctx, C.P = Try.prog → ∀ {R : Type}, PieceOk C (codeAt b8 [0, 1, 0, 1, 1, 1, 1, 1]) (piece (R := R) s8_13 (l8_13 K k)) :=
  loop_entry c8_13 (envOk8 K) (ps := ps8_13) psOk8_13 (z8_13 K) K (n8_13 K) k
noncomputable abbrev ps8 (K : Nat) : List PEntry := [⟨[0, 1, 0, 0, 1, 0, 1, 1, 1], s8_6, l8_6 K K⟩, ⟨[0, 1, 0, 1, 1, 1, 1, 1], s8_13, l8_13 K K⟩]
theorem psOk8 (K : Nat) : PiecesOk Try.prog b8 (ps8 K) := morePs (p8_6 K K) (morePs (p8_13 K K) (noPs))
noncomputable def F8 (K : Nat) (x : inDen A8 I8) : Option (outDen R8 O8) := sh Try.prog (envOf (env8 K)) (piecesOf (ps8 K)) b8 [] ⟨pad 146 (encSlots (fun i => i) A8 (inArgs I8 x)), encObjs (fun i => i) I8 (inObjs I8 x), oids I8⟩ (fin Try.prog Try.f8.results.toList I8 R8 O8)
theorem q8 : Try.f8.body = some b8 := by kernel_rfl
theorem e8 (K : Nat) (x : inDen A8 I8) : F8 K x = sh Try.prog (envOf (env8 K)) (piecesOf (ps8 K)) b8 [] (atEntry Try.f8 A8 I8 x) (fin Try.prog Try.f8.results.toList I8 R8 O8) := by kernel_rfl
theorem con8 (K : Nat) : Con Try.prog 8 A8 I8 R8 O8 (F8 K) := con_entry Try.func8 q8 rfl (envOk8 K) (psOk8 K) (e8 K)

end Go.Proofs.Ytpjfaodemfjfjaa
