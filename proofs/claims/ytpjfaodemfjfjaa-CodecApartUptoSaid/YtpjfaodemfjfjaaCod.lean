/-
  Contracts of the program's functions, printed by a program of ours (wip/gen/Gen.lean) over the shadow evaluator.
-/
import Derived.Test.YtpjfaodemfjfjaaShCon
import Derived.Test.YtpjfaodemfjfjaaProg
import Derived.KernelRfl
set_option maxRecDepth 100000
set_option linter.unusedVariables false
namespace Go.Proofs.Ytpjfaodemfjfjaa
open Go Go.Sh Go.Proofs

noncomputable def bodyOf (f : Func) : Code := f.body.getD .skip
theorem noEnv {P : Program} : EnvOk P [] := trivial
theorem moreEnv {P : Program} {f : FuncId} {a : List Pat} {r : List RPat} {Fn : slotsDen a → Option (resDen r)} {l : List Entry} (h : Con P f a r Fn) (hl : EnvOk P l) : EnvOk P (⟨f, a, r, Fn⟩ :: l) := ⟨h, hl⟩
theorem noPs {P : Program} {b : Code} : PiecesOk P b [] := trivial
theorem morePs {P : Program} {b : Code} {p : List Nat} {s : Sh.Spec} {f : s.T.den → Option (xDen s.X)} {l : List PEntry} (h : ∀ C : Ctx, C.P = P → ∀ {R : Type}, PieceOk C (codeAt b p) (piece (R := R) s f)) (hl : PiecesOk P b l) : PiecesOk P b (⟨p, s, f⟩ :: l) := ⟨h, hl⟩
def loopBody : Code → Code
  | .loop c => c
  | c => c

/- forkledger/codec.extended -/
abbrev A28 : List Pat := [.one (.sl (.int .u8)), .one (.int .i64)]
abbrev R28 : List RPat := [.own 5 (.int .u8)]
noncomputable abbrev env28 (K : Nat) : List Entry := []
theorem envOk28 (K : Nat) : EnvOk Try.prog (env28 K) := noEnv
noncomputable def b28 : Code := bodyOf Try.f28
noncomputable abbrev ps28 (K : Nat) : List PEntry := []
theorem psOk28 (K : Nat) : PiecesOk Try.prog b28 (ps28 K) := noPs
noncomputable def F28 (K : Nat) (x : slotsDen A28) : Option (resDen R28) := sh Try.prog (envOf (env28 K)) (piecesOf (ps28 K)) b28 [] ⟨pad 17 (encSlots A28 x), []⟩ (fin Try.prog Try.f28.results.toList R28)
theorem q28 : Try.f28.body = some b28 := by kernel_rfl
theorem e28 (K : Nat) (x : slotsDen A28) : F28 K x = sh Try.prog (envOf (env28 K)) (piecesOf (ps28 K)) b28 [] ⟨pad Try.f28.ntmps (encSlots A28 x), []⟩ (fin Try.prog Try.f28.results.toList R28) := by kernel_rfl
theorem con28 (K : Nat) : Con Try.prog 28 A28 R28 (F28 K) := con_entry Try.func28 q28 (envOk28 K) (psOk28 K) (e28 K)

/- forkledger/codec.AppendUint -/
abbrev A15 : List Pat := [.one (.sl (.int .u8)), .one (.int .u64), .one (.int .i64)]
abbrev R15 : List RPat := [.own 5 (.int .u8)]
noncomputable abbrev env15 (K : Nat) : List Entry := [⟨28, A28, R28, F28 K⟩]
theorem envOk15 (K : Nat) : EnvOk Try.prog (env15 K) := moreEnv (con28 K) (noEnv)
noncomputable def b15 : Code := bodyOf Try.f15
noncomputable def b15_4 : Code := loopBody (codeAt b15 [0, 1, 0, 1, 1, 1])
abbrev s15_4 : Sh.Spec := ⟨⟨30, [(1, .one (.int .u64)), (7, .own 5007), (8, .one (.int .i64))], [(5007, .arr 5 (.int .u8))]⟩, [(7, 5007, 5, (.int .u8))], [⟨.exit 0, [(7, 5007, 5, (.int .u8))], ⟨30, [(7, .own 5007)], [(5007, .arr 5 (.int .u8))]⟩⟩]⟩
noncomputable def l15_4 (K : Nat) : Nat → s15_4.T.den → Option (xDen s15_4.X)
  | 0, _ => none
  | k + 1, x => sh Try.prog (envOf (env15 K)) (piecesOf []) b15_4 [] (s15_4.T.enc x) (again s15_4 (l15_4 K k))
noncomputable abbrev ps15_4 (K : Nat) : List PEntry := []
theorem psOk15_4 (K : Nat) : PiecesOk Try.prog b15_4 (ps15_4 K) := noPs
theorem c15_4 : codeAt b15 [0, 1, 0, 1, 1, 1] = .loop b15_4 := by kernel_rfl
theorem z15_4 (K : Nat) (x : s15_4.T.den) : l15_4 K 0 x = none := rfl
theorem n15_4 (K k : Nat) (x : s15_4.T.den) : l15_4 K (k + 1) x = sh Try.prog (envOf (env15 K)) (piecesOf (ps15_4 K)) b15_4 [] (s15_4.T.enc x) (again s15_4 (l15_4 K k)) := by kernel_rfl
theorem p15_4 (K k : Nat) : ∀ C : Ctx, C.P = Try.prog → ∀ {R : Type}, PieceOk C (codeAt b15 [0, 1, 0, 1, 1, 1]) (piece (R := R) s15_4 (l15_4 K k)) :=
  loop_entry c15_4 (envOk15 K) (ps := ps15_4) psOk15_4 (z15_4 K) K (n15_4 K) k
noncomputable abbrev ps15 (K : Nat) : List PEntry := [⟨[0, 1, 0, 1, 1, 1], s15_4, l15_4 K K⟩]
theorem psOk15 (K : Nat) : PiecesOk Try.prog b15 (ps15 K) := morePs (p15_4 K K) (noPs)
noncomputable def F15 (K : Nat) (x : slotsDen A15) : Option (resDen R15) := sh Try.prog (envOf (env15 K)) (piecesOf (ps15 K)) b15 [] ⟨pad 30 (encSlots A15 x), []⟩ (fin Try.prog Try.f15.results.toList R15)
theorem q15 : Try.f15.body = some b15 := by kernel_rfl
theorem e15 (K : Nat) (x : slotsDen A15) : F15 K x = sh Try.prog (envOf (env15 K)) (piecesOf (ps15 K)) b15 [] ⟨pad Try.f15.ntmps (encSlots A15 x), []⟩ (fin Try.prog Try.f15.results.toList R15) := by kernel_rfl
theorem con15 (K : Nat) : Con Try.prog 15 A15 R15 (F15 K) := con_entry Try.func15 q15 (envOk15 K) (psOk15 K) (e15 K)

/- forkledger/codec.AppendBytes -/
abbrev A16 : List Pat := [.one (.sl (.int .u8)), .one (.sl (.int .u8))]
abbrev R16 : List RPat := [.own 5 (.int .u8), .one .bool]
noncomputable abbrev env16 (K : Nat) : List Entry := [⟨15, A15, R15, F15 K⟩]
theorem envOk16 (K : Nat) : EnvOk Try.prog (env16 K) := moreEnv (con15 K) (noEnv)
noncomputable def b16 : Code := bodyOf Try.f16
noncomputable abbrev ps16 (K : Nat) : List PEntry := []
theorem psOk16 (K : Nat) : PiecesOk Try.prog b16 (ps16 K) := noPs
noncomputable def F16 (K : Nat) (x : slotsDen A16) : Option (resDen R16) := sh Try.prog (envOf (env16 K)) (piecesOf (ps16 K)) b16 [] ⟨pad 16 (encSlots A16 x), []⟩ (fin Try.prog Try.f16.results.toList R16)
theorem q16 : Try.f16.body = some b16 := by kernel_rfl
theorem e16 (K : Nat) (x : slotsDen A16) : F16 K x = sh Try.prog (envOf (env16 K)) (piecesOf (ps16 K)) b16 [] ⟨pad Try.f16.ntmps (encSlots A16 x), []⟩ (fin Try.prog Try.f16.results.toList R16) := by kernel_rfl
theorem con16 (K : Nat) : Con Try.prog 16 A16 R16 (F16 K) := con_entry Try.func16 q16 (envOk16 K) (psOk16 K) (e16 K)

/- forkledger/forkledgerlaw2.awake -/
abbrev A9 : List Pat := []
abbrev R9 : List RPat := [.one .bool]
noncomputable abbrev env9 (K : Nat) : List Entry := [⟨15, A15, R15, F15 K⟩, ⟨16, A16, R16, F16 K⟩]
theorem envOk9 (K : Nat) : EnvOk Try.prog (env9 K) := moreEnv (con15 K) (moreEnv (con16 K) (noEnv))
noncomputable def b9 : Code := bodyOf Try.f9
noncomputable abbrev ps9 (K : Nat) : List PEntry := []
theorem psOk9 (K : Nat) : PiecesOk Try.prog b9 (ps9 K) := noPs
noncomputable def F9 (K : Nat) (x : slotsDen A9) : Option (resDen R9) := sh Try.prog (envOf (env9 K)) (piecesOf (ps9 K)) b9 [] ⟨pad 16 (encSlots A9 x), []⟩ (fin Try.prog Try.f9.results.toList R9)
theorem q9 : Try.f9.body = some b9 := by kernel_rfl
theorem e9 (K : Nat) (x : slotsDen A9) : F9 K x = sh Try.prog (envOf (env9 K)) (piecesOf (ps9 K)) b9 [] ⟨pad Try.f9.ntmps (encSlots A9 x), []⟩ (fin Try.prog Try.f9.results.toList R9) := by kernel_rfl
theorem con9 (K : Nat) : Con Try.prog 9 A9 R9 (F9 K) := con_entry Try.func9 q9 (envOk9 K) (psOk9 K) (e9 K)

/- forkledger/forkledgerlaw2.kind -/
abbrev A11 : List Pat := [.agg (.pr (.int .i64) (.pr (.int .i64) (.pr (.int .u64) (.pr (.sl (.int .u8)) (.sl (.pr (.int .u8) (.pr (.int .u8) (.pr (.int .u8) (.pr (.int .u8) (.pr (.int .u8) (.pr (.int .u8) (.pr (.int .u8) (.int .u8)))))))))))))]
abbrev R11 : List RPat := [.one (.int .i64)]
noncomputable abbrev env11 (K : Nat) : List Entry := []
theorem envOk11 (K : Nat) : EnvOk Try.prog (env11 K) := noEnv
noncomputable def b11 : Code := bodyOf Try.f11
noncomputable abbrev ps11 (K : Nat) : List PEntry := []
theorem psOk11 (K : Nat) : PiecesOk Try.prog b11 (ps11 K) := noPs
noncomputable def F11 (K : Nat) (x : slotsDen A11) : Option (resDen R11) := sh Try.prog (envOf (env11 K)) (piecesOf (ps11 K)) b11 [] ⟨pad 8 (encSlots A11 x), []⟩ (fin Try.prog Try.f11.results.toList R11)
theorem q11 : Try.f11.body = some b11 := by kernel_rfl
theorem e11 (K : Nat) (x : slotsDen A11) : F11 K x = sh Try.prog (envOf (env11 K)) (piecesOf (ps11 K)) b11 [] ⟨pad Try.f11.ntmps (encSlots A11 x), []⟩ (fin Try.prog Try.f11.results.toList R11) := by kernel_rfl
theorem con11 (K : Nat) : Con Try.prog 11 A11 R11 (F11 K) := con_entry Try.func11 q11 (envOk11 K) (psOk11 K) (e11 K)

/- forkledger/forkledgerlaw2.width -/
abbrev A27 : List Pat := [.agg (.pr (.int .i64) (.pr (.int .i64) (.pr (.int .u64) (.pr (.sl (.int .u8)) (.sl (.pr (.int .u8) (.pr (.int .u8) (.pr (.int .u8) (.pr (.int .u8) (.pr (.int .u8) (.pr (.int .u8) (.pr (.int .u8) (.int .u8)))))))))))))]
abbrev R27 : List RPat := [.one (.int .i64)]
noncomputable abbrev env27 (K : Nat) : List Entry := []
theorem envOk27 (K : Nat) : EnvOk Try.prog (env27 K) := noEnv
noncomputable def b27 : Code := bodyOf Try.f27
noncomputable abbrev ps27 (K : Nat) : List PEntry := []
theorem psOk27 (K : Nat) : PiecesOk Try.prog b27 (ps27 K) := noPs
noncomputable def F27 (K : Nat) (x : slotsDen A27) : Option (resDen R27) := sh Try.prog (envOf (env27 K)) (piecesOf (ps27 K)) b27 [] ⟨pad 9 (encSlots A27 x), []⟩ (fin Try.prog Try.f27.results.toList R27)
theorem q27 : Try.f27.body = some b27 := by kernel_rfl
theorem e27 (K : Nat) (x : slotsDen A27) : F27 K x = sh Try.prog (envOf (env27 K)) (piecesOf (ps27 K)) b27 [] ⟨pad Try.f27.ntmps (encSlots A27 x), []⟩ (fin Try.prog Try.f27.results.toList R27) := by kernel_rfl
theorem con27 (K : Nat) : Con Try.prog 27 A27 R27 (F27 K) := con_entry Try.func27 q27 (envOk27 K) (psOk27 K) (e27 K)

/- forkledger/codec.AppendNames -/
abbrev A17 : List Pat := [.one (.sl (.int .u8)), .one (.sl (.pr (.int .u8) (.pr (.int .u8) (.pr (.int .u8) (.pr (.int .u8) (.pr (.int .u8) (.pr (.int .u8) (.pr (.int .u8) (.int .u8)))))))))]
abbrev R17 : List RPat := [.own 5 (.int .u8), .one .bool]
noncomputable abbrev env17 (K : Nat) : List Entry := [⟨15, A15, R15, F15 K⟩]
theorem envOk17 (K : Nat) : EnvOk Try.prog (env17 K) := moreEnv (con15 K) (noEnv)
noncomputable def b17 : Code := bodyOf Try.f17
noncomputable def b17_5 : Code := loopBody (codeAt b17 [0, 1, 0, 1, 1, 1])
abbrev s17_5 : Sh.Spec := ⟨⟨28, [(6, .own 5006), (17, .one (.sl (.pr (.int .u8) (.pr (.int .u8) (.pr (.int .u8) (.pr (.int .u8) (.pr (.int .u8) (.pr (.int .u8) (.pr (.int .u8) (.int .u8)))))))))), (18, .one (.int .i64)), (19, .one (.int .i64))], [(5006, .arr 5 (.int .u8))]⟩, [(6, 5006, 5, (.int .u8))], [⟨.exit 0, [(6, 5006, 5, (.int .u8))], ⟨28, [(6, .own 5006)], [(5006, .arr 5 (.int .u8))]⟩⟩]⟩
noncomputable def l17_5 (K : Nat) : Nat → s17_5.T.den → Option (xDen s17_5.X)
  | 0, _ => none
  | k + 1, x => sh Try.prog (envOf (env17 K)) (piecesOf []) b17_5 [] (s17_5.T.enc x) (again s17_5 (l17_5 K k))
noncomputable abbrev ps17_5 (K : Nat) : List PEntry := []
theorem psOk17_5 (K : Nat) : PiecesOk Try.prog b17_5 (ps17_5 K) := noPs
theorem c17_5 : codeAt b17 [0, 1, 0, 1, 1, 1] = .loop b17_5 := by kernel_rfl
theorem z17_5 (K : Nat) (x : s17_5.T.den) : l17_5 K 0 x = none := rfl
theorem n17_5 (K k : Nat) (x : s17_5.T.den) : l17_5 K (k + 1) x = sh Try.prog (envOf (env17 K)) (piecesOf (ps17_5 K)) b17_5 [] (s17_5.T.enc x) (again s17_5 (l17_5 K k)) := by kernel_rfl
theorem p17_5 (K k : Nat) : ∀ C : Ctx, C.P = Try.prog → ∀ {R : Type}, PieceOk C (codeAt b17 [0, 1, 0, 1, 1, 1]) (piece (R := R) s17_5 (l17_5 K k)) :=
  loop_entry c17_5 (envOk17 K) (ps := ps17_5) psOk17_5 (z17_5 K) K (n17_5 K) k
noncomputable abbrev ps17 (K : Nat) : List PEntry := [⟨[0, 1, 0, 1, 1, 1], s17_5, l17_5 K K⟩]
theorem psOk17 (K : Nat) : PiecesOk Try.prog b17 (ps17 K) := morePs (p17_5 K K) (noPs)
noncomputable def F17 (K : Nat) (x : slotsDen A17) : Option (resDen R17) := sh Try.prog (envOf (env17 K)) (piecesOf (ps17 K)) b17 [] ⟨pad 28 (encSlots A17 x), []⟩ (fin Try.prog Try.f17.results.toList R17)
theorem q17 : Try.f17.body = some b17 := by kernel_rfl
theorem e17 (K : Nat) (x : slotsDen A17) : F17 K x = sh Try.prog (envOf (env17 K)) (piecesOf (ps17 K)) b17 [] ⟨pad Try.f17.ntmps (encSlots A17 x), []⟩ (fin Try.prog Try.f17.results.toList R17) := by kernel_rfl
theorem con17 (K : Nat) : Con Try.prog 17 A17 R17 (F17 K) := con_entry Try.func17 q17 (envOk17 K) (psOk17 K) (e17 K)

/- forkledger/forkledgerlaw2.write -/
abbrev A10 : List Pat := [.one (.sl (.int .u8)), .one (.sl (.pr (.int .i64) (.pr (.int .i64) (.pr (.int .u64) (.pr (.sl (.int .u8)) (.sl (.pr (.int .u8) (.pr (.int .u8) (.pr (.int .u8) (.pr (.int .u8) (.pr (.int .u8) (.pr (.int .u8) (.pr (.int .u8) (.int .u8))))))))))))))]
abbrev R10 : List RPat := [.one (.sl (.int .u8)), .one .bool]
noncomputable abbrev env10 (K : Nat) : List Entry := [⟨11, A11, R11, F11 K⟩, ⟨27, A27, R27, F27 K⟩, ⟨15, A15, R15, F15 K⟩, ⟨16, A16, R16, F16 K⟩, ⟨17, A17, R17, F17 K⟩]
theorem envOk10 (K : Nat) : EnvOk Try.prog (env10 K) := moreEnv (con11 K) (moreEnv (con27 K) (moreEnv (con15 K) (moreEnv (con16 K) (moreEnv (con17 K) (noEnv)))))
noncomputable def b10 : Code := bodyOf Try.f10
noncomputable def b10_3 : Code := loopBody (codeAt b10 [0, 1, 0, 1, 1])
abbrev s10_3 : Sh.Spec := ⟨⟨60, [(0, .one (.sl (.int .u8))), (1, .one (.sl (.pr (.int .i64) (.pr (.int .i64) (.pr (.int .u64) (.pr (.sl (.int .u8)) (.sl (.pr (.int .u8) (.pr (.int .u8) (.pr (.int .u8) (.pr (.int .u8) (.pr (.int .u8) (.pr (.int .u8) (.pr (.int .u8) (.int .u8))))))))))))))), (6, .one .bool), (7, .one (.int .i64))], []⟩, [], [⟨.exit 0, [], ⟨60, [(0, .one (.sl (.int .u8))), (6, .one .bool)], []⟩⟩]⟩
noncomputable def l10_3 (K : Nat) : Nat → s10_3.T.den → Option (xDen s10_3.X)
  | 0, _ => none
  | k + 1, x => sh Try.prog (envOf (env10 K)) (piecesOf []) b10_3 [] (s10_3.T.enc x) (again s10_3 (l10_3 K k))
noncomputable abbrev ps10_3 (K : Nat) : List PEntry := []
theorem psOk10_3 (K : Nat) : PiecesOk Try.prog b10_3 (ps10_3 K) := noPs
theorem c10_3 : codeAt b10 [0, 1, 0, 1, 1] = .loop b10_3 := by kernel_rfl
theorem z10_3 (K : Nat) (x : s10_3.T.den) : l10_3 K 0 x = none := rfl
theorem n10_3 (K k : Nat) (x : s10_3.T.den) : l10_3 K (k + 1) x = sh Try.prog (envOf (env10 K)) (piecesOf (ps10_3 K)) b10_3 [] (s10_3.T.enc x) (again s10_3 (l10_3 K k)) := by kernel_rfl
theorem p10_3 (K k : Nat) : ∀ C : Ctx, C.P = Try.prog → ∀ {R : Type}, PieceOk C (codeAt b10 [0, 1, 0, 1, 1]) (piece (R := R) s10_3 (l10_3 K k)) :=
  loop_entry c10_3 (envOk10 K) (ps := ps10_3) psOk10_3 (z10_3 K) K (n10_3 K) k
noncomputable abbrev ps10 (K : Nat) : List PEntry := [⟨[0, 1, 0, 1, 1], s10_3, l10_3 K K⟩]
theorem psOk10 (K : Nat) : PiecesOk Try.prog b10 (ps10 K) := morePs (p10_3 K K) (noPs)
noncomputable def F10 (K : Nat) (x : slotsDen A10) : Option (resDen R10) := sh Try.prog (envOf (env10 K)) (piecesOf (ps10 K)) b10 [] ⟨pad 60 (encSlots A10 x), []⟩ (fin Try.prog Try.f10.results.toList R10)
theorem q10 : Try.f10.body = some b10 := by kernel_rfl
theorem e10 (K : Nat) (x : slotsDen A10) : F10 K x = sh Try.prog (envOf (env10 K)) (piecesOf (ps10 K)) b10 [] ⟨pad Try.f10.ntmps (encSlots A10 x), []⟩ (fin Try.prog Try.f10.results.toList R10) := by kernel_rfl
theorem con10 (K : Nat) : Con Try.prog 10 A10 R10 (F10 K) := con_entry Try.func10 q10 (envOk10 K) (psOk10 K) (e10 K)

/- forkledger/forkledgerlaw2.number -/
abbrev A12 : List Pat := [.agg (.pr (.int .i64) (.pr (.int .i64) (.pr (.int .u64) (.pr (.sl (.int .u8)) (.sl (.pr (.int .u8) (.pr (.int .u8) (.pr (.int .u8) (.pr (.int .u8) (.pr (.int .u8) (.pr (.int .u8) (.pr (.int .u8) (.int .u8)))))))))))))]
abbrev R12 : List RPat := [.one (.int .u64)]
noncomputable abbrev env12 (K : Nat) : List Entry := [⟨27, A27, R27, F27 K⟩]
theorem envOk12 (K : Nat) : EnvOk Try.prog (env12 K) := moreEnv (con27 K) (noEnv)
noncomputable def b12 : Code := bodyOf Try.f12
noncomputable abbrev ps12 (K : Nat) : List PEntry := []
theorem psOk12 (K : Nat) : PiecesOk Try.prog b12 (ps12 K) := noPs
noncomputable def F12 (K : Nat) (x : slotsDen A12) : Option (resDen R12) := sh Try.prog (envOf (env12 K)) (piecesOf (ps12 K)) b12 [] ⟨pad 17 (encSlots A12 x), []⟩ (fin Try.prog Try.f12.results.toList R12)
theorem q12 : Try.f12.body = some b12 := by kernel_rfl
theorem e12 (K : Nat) (x : slotsDen A12) : F12 K x = sh Try.prog (envOf (env12 K)) (piecesOf (ps12 K)) b12 [] ⟨pad Try.f12.ntmps (encSlots A12 x), []⟩ (fin Try.prog Try.f12.results.toList R12) := by kernel_rfl
theorem con12 (K : Nat) : Con Try.prog 12 A12 R12 (F12 K) := con_entry Try.func12 q12 (envOk12 K) (psOk12 K) (e12 K)

/- forkledger/forkledgerlaw2.same -/
abbrev A13 : List Pat := [.one (.sl (.int .u8)), .one (.sl (.int .u8))]
abbrev R13 : List RPat := [.one .bool]
noncomputable abbrev env13 (K : Nat) : List Entry := []
theorem envOk13 (K : Nat) : EnvOk Try.prog (env13 K) := noEnv
noncomputable def b13 : Code := bodyOf Try.f13
noncomputable abbrev ps13 (K : Nat) : List PEntry := []
theorem psOk13 (K : Nat) : PiecesOk Try.prog b13 (ps13 K) := noPs
noncomputable def F13 (K : Nat) (x : slotsDen A13) : Option (resDen R13) := sh Try.prog (envOf (env13 K)) (piecesOf (ps13 K)) b13 [] ⟨pad 10 (encSlots A13 x), []⟩ (fin Try.prog Try.f13.results.toList R13)
theorem q13 : Try.f13.body = some b13 := by kernel_rfl
theorem e13 (K : Nat) (x : slotsDen A13) : F13 K x = sh Try.prog (envOf (env13 K)) (piecesOf (ps13 K)) b13 [] ⟨pad Try.f13.ntmps (encSlots A13 x), []⟩ (fin Try.prog Try.f13.results.toList R13) := by kernel_rfl
theorem con13 (K : Nat) : Con Try.prog 13 A13 R13 (F13 K) := con_entry Try.func13 q13 (envOk13 K) (psOk13 K) (e13 K)

/- forkledger/forkledgerlaw2.names -/
abbrev A14 : List Pat := [.one (.sl (.pr (.int .u8) (.pr (.int .u8) (.pr (.int .u8) (.pr (.int .u8) (.pr (.int .u8) (.pr (.int .u8) (.pr (.int .u8) (.int .u8))))))))), .one (.sl (.pr (.int .u8) (.pr (.int .u8) (.pr (.int .u8) (.pr (.int .u8) (.pr (.int .u8) (.pr (.int .u8) (.pr (.int .u8) (.int .u8)))))))))]
abbrev R14 : List RPat := [.one .bool]
noncomputable abbrev env14 (K : Nat) : List Entry := []
theorem envOk14 (K : Nat) : EnvOk Try.prog (env14 K) := noEnv
noncomputable def b14 : Code := bodyOf Try.f14
noncomputable def b14_4 : Code := loopBody (codeAt b14 [0, 1, 0, 1, 1])
abbrev s14_4 : Sh.Spec := ⟨⟨26, [(0, .one (.sl (.pr (.int .u8) (.pr (.int .u8) (.pr (.int .u8) (.pr (.int .u8) (.pr (.int .u8) (.pr (.int .u8) (.pr (.int .u8) (.int .u8)))))))))), (1, .one (.sl (.pr (.int .u8) (.pr (.int .u8) (.pr (.int .u8) (.pr (.int .u8) (.pr (.int .u8) (.pr (.int .u8) (.pr (.int .u8) (.int .u8)))))))))), (5, .one (.int .i64))], []⟩, [], [⟨.exit 0, [], ⟨26, [], []⟩⟩, ⟨.ret, [], ⟨26, [(4, .one .bool)], []⟩⟩]⟩
noncomputable def l14_4 (K : Nat) : Nat → s14_4.T.den → Option (xDen s14_4.X)
  | 0, _ => none
  | k + 1, x => sh Try.prog (envOf (env14 K)) (piecesOf []) b14_4 [] (s14_4.T.enc x) (again s14_4 (l14_4 K k))
noncomputable abbrev ps14_4 (K : Nat) : List PEntry := []
theorem psOk14_4 (K : Nat) : PiecesOk Try.prog b14_4 (ps14_4 K) := noPs
theorem c14_4 : codeAt b14 [0, 1, 0, 1, 1] = .loop b14_4 := by kernel_rfl
theorem z14_4 (K : Nat) (x : s14_4.T.den) : l14_4 K 0 x = none := rfl
theorem n14_4 (K k : Nat) (x : s14_4.T.den) : l14_4 K (k + 1) x = sh Try.prog (envOf (env14 K)) (piecesOf (ps14_4 K)) b14_4 [] (s14_4.T.enc x) (again s14_4 (l14_4 K k)) := by kernel_rfl
theorem p14_4 (K k : Nat) : ∀ C : Ctx, C.P = Try.prog → ∀ {R : Type}, PieceOk C (codeAt b14 [0, 1, 0, 1, 1]) (piece (R := R) s14_4 (l14_4 K k)) :=
  loop_entry c14_4 (envOk14 K) (ps := ps14_4) psOk14_4 (z14_4 K) K (n14_4 K) k
noncomputable abbrev ps14 (K : Nat) : List PEntry := [⟨[0, 1, 0, 1, 1], s14_4, l14_4 K K⟩]
theorem psOk14 (K : Nat) : PiecesOk Try.prog b14 (ps14 K) := morePs (p14_4 K K) (noPs)
noncomputable def F14 (K : Nat) (x : slotsDen A14) : Option (resDen R14) := sh Try.prog (envOf (env14 K)) (piecesOf (ps14 K)) b14 [] ⟨pad 26 (encSlots A14 x), []⟩ (fin Try.prog Try.f14.results.toList R14)
theorem q14 : Try.f14.body = some b14 := by kernel_rfl
theorem e14 (K : Nat) (x : slotsDen A14) : F14 K x = sh Try.prog (envOf (env14 K)) (piecesOf (ps14 K)) b14 [] ⟨pad Try.f14.ntmps (encSlots A14 x), []⟩ (fin Try.prog Try.f14.results.toList R14) := by kernel_rfl
theorem con14 (K : Nat) : Con Try.prog 14 A14 R14 (F14 K) := con_entry Try.func14 q14 (envOk14 K) (psOk14 K) (e14 K)

/- forkledger/forkledgerlaw2.CodecApart -/
abbrev A3 : List Pat := [.one (.sl (.pr (.int .i64) (.pr (.int .i64) (.pr (.int .u64) (.pr (.sl (.int .u8)) (.sl (.pr (.int .u8) (.pr (.int .u8) (.pr (.int .u8) (.pr (.int .u8) (.pr (.int .u8) (.pr (.int .u8) (.pr (.int .u8) (.int .u8)))))))))))))), .one (.int .i64), .agg (.pr (.int .i64) (.pr (.int .i64) (.pr (.int .u64) (.pr (.sl (.int .u8)) (.sl (.pr (.int .u8) (.pr (.int .u8) (.pr (.int .u8) (.pr (.int .u8) (.pr (.int .u8) (.pr (.int .u8) (.pr (.int .u8) (.int .u8)))))))))))))]
abbrev R3 : List RPat := [.one .bool]
noncomputable abbrev env3 (K : Nat) : List Entry := [⟨9, A9, R9, F9 K⟩, ⟨10, A10, R10, F10 K⟩, ⟨11, A11, R11, F11 K⟩, ⟨12, A12, R12, F12 K⟩, ⟨13, A13, R13, F13 K⟩, ⟨14, A14, R14, F14 K⟩]
theorem envOk3 (K : Nat) : EnvOk Try.prog (env3 K) := moreEnv (con9 K) (moreEnv (con10 K) (moreEnv (con11 K) (moreEnv (con12 K) (moreEnv (con13 K) (moreEnv (con14 K) (noEnv))))))
noncomputable def b3 : Code := bodyOf Try.f3
noncomputable abbrev ps3 (K : Nat) : List PEntry := []
theorem psOk3 (K : Nat) : PiecesOk Try.prog b3 (ps3 K) := noPs
noncomputable def F3 (K : Nat) (x : slotsDen A3) : Option (resDen R3) := sh Try.prog (envOf (env3 K)) (piecesOf (ps3 K)) b3 [] ⟨pad 103 (encSlots A3 x), []⟩ (fin Try.prog Try.f3.results.toList R3)
theorem q3 : Try.f3.body = some b3 := by kernel_rfl
theorem e3 (K : Nat) (x : slotsDen A3) : F3 K x = sh Try.prog (envOf (env3 K)) (piecesOf (ps3 K)) b3 [] ⟨pad Try.f3.ntmps (encSlots A3 x), []⟩ (fin Try.prog Try.f3.results.toList R3) := by kernel_rfl
theorem con3 (K : Nat) : Con Try.prog 3 A3 R3 (F3 K) := con_entry Try.func3 q3 (envOk3 K) (psOk3 K) (e3 K)

/- forkledger/forkledgerlaw2.CodecFresh -/
abbrev A4 : List Pat := [.one (.sl (.int .u8)), .one (.sl (.int .u8)), .one (.sl (.int .u8)), .one (.int .u64), .one (.int .i64), .one (.sl (.pr (.int .u8) (.pr (.int .u8) (.pr (.int .u8) (.pr (.int .u8) (.pr (.int .u8) (.pr (.int .u8) (.pr (.int .u8) (.int .u8)))))))))]
abbrev R4 : List RPat := [.one .bool]
noncomputable abbrev env4 (K : Nat) : List Entry := [⟨15, A15, R15, F15 K⟩, ⟨16, A16, R16, F16 K⟩, ⟨17, A17, R17, F17 K⟩, ⟨9, A9, R9, F9 K⟩]
theorem envOk4 (K : Nat) : EnvOk Try.prog (env4 K) := moreEnv (con15 K) (moreEnv (con16 K) (moreEnv (con17 K) (moreEnv (con9 K) (noEnv))))
noncomputable def b4 : Code := bodyOf Try.f4
noncomputable def b4_10 : Code := loopBody (codeAt b4 [0, 1, 0, 1, 1, 1, 1, 1, 1, 1, 1])
noncomputable def b4_13 : Code := loopBody (codeAt b4_10 [0, 1, 1, 0, 0, 1, 1])
abbrev s4_13 : Sh.Spec := ⟨⟨95, [(13, .one (.sl (.int .u8))), (14, .one .str), (22, .own 5022), (23, .one (.int .i64)), (71, .agg (.pr (.sl (.int .u8)) (.pr (.sl (.int .u8)) (.sl (.int .u8))))), (72, .one (.int .i64))], [(5022, .arr 5 (.int .u8))]⟩, [(22, 5022, 5, (.int .u8))], [⟨.exit 2, [], ⟨95, [(13, .one (.sl (.int .u8))), (14, .one .str), (71, .agg (.pr (.sl (.int .u8)) (.pr (.sl (.int .u8)) (.sl (.int .u8))))), (72, .one (.int .i64))], []⟩⟩]⟩
noncomputable def l4_13 (K : Nat) : Nat → s4_13.T.den → Option (xDen s4_13.X)
  | 0, _ => none
  | k + 1, x => sh Try.prog (envOf (env4 K)) (piecesOf []) b4_13 [] (s4_13.T.enc x) (again s4_13 (l4_13 K k))
noncomputable abbrev ps4_13 (K : Nat) : List PEntry := []
theorem psOk4_13 (K : Nat) : PiecesOk Try.prog b4_13 (ps4_13 K) := noPs
theorem c4_13 : codeAt b4_10 [0, 1, 1, 0, 0, 1, 1] = .loop b4_13 := by kernel_rfl
theorem z4_13 (K : Nat) (x : s4_13.T.den) : l4_13 K 0 x = none := rfl
theorem n4_13 (K k : Nat) (x : s4_13.T.den) : l4_13 K (k + 1) x = sh Try.prog (envOf (env4 K)) (piecesOf (ps4_13 K)) b4_13 [] (s4_13.T.enc x) (again s4_13 (l4_13 K k)) := by kernel_rfl
theorem p4_13 (K k : Nat) : ∀ C : Ctx, C.P = Try.prog → ∀ {R : Type}, PieceOk C (codeAt b4_10 [0, 1, 1, 0, 0, 1, 1]) (piece (R := R) s4_13 (l4_13 K k)) :=
  loop_entry c4_13 (envOk4 K) (ps := ps4_13) psOk4_13 (z4_13 K) K (n4_13 K) k
abbrev s4_10 : Sh.Spec := ⟨⟨95, [(13, .one (.sl (.int .u8))), (14, .one .str), (71, .agg (.pr (.sl (.int .u8)) (.pr (.sl (.int .u8)) (.sl (.int .u8))))), (72, .one (.int .i64))], []⟩, [], [⟨.exit 0, [], ⟨95, [(13, .one (.sl (.int .u8))), (14, .one .str)], []⟩⟩]⟩
noncomputable def l4_10 (K : Nat) : Nat → s4_10.T.den → Option (xDen s4_10.X)
  | 0, _ => none
  | k + 1, x => sh Try.prog (envOf (env4 K)) (piecesOf [⟨[0, 1, 1, 0, 0, 1, 1], s4_13, l4_13 K K⟩]) b4_10 [] (s4_10.T.enc x) (again s4_10 (l4_10 K k))
noncomputable abbrev ps4_10 (K : Nat) : List PEntry := [⟨[0, 1, 1, 0, 0, 1, 1], s4_13, l4_13 K K⟩]
theorem psOk4_10 (K : Nat) : PiecesOk Try.prog b4_10 (ps4_10 K) := morePs (p4_13 K K) (noPs)
theorem c4_10 : codeAt b4 [0, 1, 0, 1, 1, 1, 1, 1, 1, 1, 1] = .loop b4_10 := by kernel_rfl
theorem z4_10 (K : Nat) (x : s4_10.T.den) : l4_10 K 0 x = none := rfl
theorem n4_10 (K k : Nat) (x : s4_10.T.den) : l4_10 K (k + 1) x = sh Try.prog (envOf (env4 K)) (piecesOf (ps4_10 K)) b4_10 [] (s4_10.T.enc x) (again s4_10 (l4_10 K k)) := by kernel_rfl
theorem p4_10 (K k : Nat) : ∀ C : Ctx, C.P = Try.prog → ∀ {R : Type}, PieceOk C (codeAt b4 [0, 1, 0, 1, 1, 1, 1, 1, 1, 1, 1]) (piece (R := R) s4_10 (l4_10 K k)) :=
  loop_entry c4_10 (envOk4 K) (ps := ps4_10) psOk4_10 (z4_10 K) K (n4_10 K) k
noncomputable abbrev ps4 (K : Nat) : List PEntry := [⟨[0, 1, 0, 1, 1, 1, 1, 1, 1, 1, 1], s4_10, l4_10 K K⟩]
theorem psOk4 (K : Nat) : PiecesOk Try.prog b4 (ps4 K) := morePs (p4_10 K K) (noPs)
noncomputable def F4 (K : Nat) (x : slotsDen A4) : Option (resDen R4) := sh Try.prog (envOf (env4 K)) (piecesOf (ps4 K)) b4 [] ⟨pad 95 (encSlots A4 x), []⟩ (fin Try.prog Try.f4.results.toList R4)
theorem q4 : Try.f4.body = some b4 := by kernel_rfl
theorem e4 (K : Nat) (x : slotsDen A4) : F4 K x = sh Try.prog (envOf (env4 K)) (piecesOf (ps4 K)) b4 [] ⟨pad Try.f4.ntmps (encSlots A4 x), []⟩ (fin Try.prog Try.f4.results.toList R4) := by kernel_rfl
theorem con4 (K : Nat) : Con Try.prog 4 A4 R4 (F4 K) := con_entry Try.func4 q4 (envOk4 K) (psOk4 K) (e4 K)

/- forkledger/codec.follow -/
abbrev A29 : List Pat := [.one (.sl (.int .u8)), .one (.int .i64), .one (.int .i64)]
abbrev R29 : List RPat := [.one .bool]
noncomputable abbrev env29 (K : Nat) : List Entry := []
theorem envOk29 (K : Nat) : EnvOk Try.prog (env29 K) := noEnv
noncomputable def b29 : Code := bodyOf Try.f29
noncomputable abbrev ps29 (K : Nat) : List PEntry := []
theorem psOk29 (K : Nat) : PiecesOk Try.prog b29 (ps29 K) := noPs
noncomputable def F29 (K : Nat) (x : slotsDen A29) : Option (resDen R29) := sh Try.prog (envOf (env29 K)) (piecesOf (ps29 K)) b29 [] ⟨pad 23 (encSlots A29 x), []⟩ (fin Try.prog Try.f29.results.toList R29)
theorem q29 : Try.f29.body = some b29 := by kernel_rfl
theorem e29 (K : Nat) (x : slotsDen A29) : F29 K x = sh Try.prog (envOf (env29 K)) (piecesOf (ps29 K)) b29 [] ⟨pad Try.f29.ntmps (encSlots A29 x), []⟩ (fin Try.prog Try.f29.results.toList R29) := by kernel_rfl
theorem con29 (K : Nat) : Con Try.prog 29 A29 R29 (F29 K) := con_entry Try.func29 q29 (envOk29 K) (psOk29 K) (e29 K)

/- forkledger/codec.Uint -/
abbrev A18 : List Pat := [.one (.sl (.int .u8)), .one (.int .i64), .one (.int .i64)]
abbrev R18 : List RPat := [.one (.int .u64), .one .bool]
noncomputable abbrev env18 (K : Nat) : List Entry := [⟨29, A29, R29, F29 K⟩]
theorem envOk18 (K : Nat) : EnvOk Try.prog (env18 K) := moreEnv (con29 K) (noEnv)
noncomputable def b18 : Code := bodyOf Try.f18
noncomputable def b18_5 : Code := loopBody (codeAt b18 [0, 1, 0, 1, 1, 1])
abbrev s18_5 : Sh.Spec := ⟨⟨42, [(8, .one (.int .u64)), (29, .one (.sl (.int .u8))), (30, .one (.int .i64)), (31, .one (.int .i64))], []⟩, [], [⟨.exit 0, [], ⟨42, [(8, .one (.int .u64))], []⟩⟩]⟩
noncomputable def l18_5 (K : Nat) : Nat → s18_5.T.den → Option (xDen s18_5.X)
  | 0, _ => none
  | k + 1, x => sh Try.prog (envOf (env18 K)) (piecesOf []) b18_5 [] (s18_5.T.enc x) (again s18_5 (l18_5 K k))
noncomputable abbrev ps18_5 (K : Nat) : List PEntry := []
theorem psOk18_5 (K : Nat) : PiecesOk Try.prog b18_5 (ps18_5 K) := noPs
theorem c18_5 : codeAt b18 [0, 1, 0, 1, 1, 1] = .loop b18_5 := by kernel_rfl
theorem z18_5 (K : Nat) (x : s18_5.T.den) : l18_5 K 0 x = none := rfl
theorem n18_5 (K k : Nat) (x : s18_5.T.den) : l18_5 K (k + 1) x = sh Try.prog (envOf (env18 K)) (piecesOf (ps18_5 K)) b18_5 [] (s18_5.T.enc x) (again s18_5 (l18_5 K k)) := by kernel_rfl
theorem p18_5 (K k : Nat) : ∀ C : Ctx, C.P = Try.prog → ∀ {R : Type}, PieceOk C (codeAt b18 [0, 1, 0, 1, 1, 1]) (piece (R := R) s18_5 (l18_5 K k)) :=
  loop_entry c18_5 (envOk18 K) (ps := ps18_5) psOk18_5 (z18_5 K) K (n18_5 K) k
noncomputable abbrev ps18 (K : Nat) : List PEntry := [⟨[0, 1, 0, 1, 1, 1], s18_5, l18_5 K K⟩]
theorem psOk18 (K : Nat) : PiecesOk Try.prog b18 (ps18 K) := morePs (p18_5 K K) (noPs)
noncomputable def F18 (K : Nat) (x : slotsDen A18) : Option (resDen R18) := sh Try.prog (envOf (env18 K)) (piecesOf (ps18 K)) b18 [] ⟨pad 42 (encSlots A18 x), []⟩ (fin Try.prog Try.f18.results.toList R18)
theorem q18 : Try.f18.body = some b18 := by kernel_rfl
theorem e18 (K : Nat) (x : slotsDen A18) : F18 K x = sh Try.prog (envOf (env18 K)) (piecesOf (ps18 K)) b18 [] ⟨pad Try.f18.ntmps (encSlots A18 x), []⟩ (fin Try.prog Try.f18.results.toList R18) := by kernel_rfl
theorem con18 (K : Nat) : Con Try.prog 18 A18 R18 (F18 K) := con_entry Try.func18 q18 (envOk18 K) (psOk18 K) (e18 K)

/- forkledger/forkledgerref1.Uint -/
abbrev A19 : List Pat := [.one (.sl (.int .u8)), .one (.int .i64), .one (.int .i64)]
abbrev R19 : List RPat := [.one (.int .u64), .one .bool]
noncomputable abbrev env19 (K : Nat) : List Entry := []
theorem envOk19 (K : Nat) : EnvOk Try.prog (env19 K) := noEnv
noncomputable def b19 : Code := bodyOf Try.f19
noncomputable def b19_5 : Code := loopBody (codeAt b19 [0, 1, 0, 1, 1, 1])
abbrev s19_5 : Sh.Spec := ⟨⟨44, [(0, .one (.sl (.int .u8))), (1, .one (.int .i64)), (2, .one (.int .i64)), (8, .one (.int .u64)), (9, .one (.int .i64))], []⟩, [], [⟨.exit 0, [], ⟨44, [(8, .one (.int .u64))], []⟩⟩]⟩
noncomputable def l19_5 (K : Nat) : Nat → s19_5.T.den → Option (xDen s19_5.X)
  | 0, _ => none
  | k + 1, x => sh Try.prog (envOf (env19 K)) (piecesOf []) b19_5 [] (s19_5.T.enc x) (again s19_5 (l19_5 K k))
noncomputable abbrev ps19_5 (K : Nat) : List PEntry := []
theorem psOk19_5 (K : Nat) : PiecesOk Try.prog b19_5 (ps19_5 K) := noPs
theorem c19_5 : codeAt b19 [0, 1, 0, 1, 1, 1] = .loop b19_5 := by kernel_rfl
theorem z19_5 (K : Nat) (x : s19_5.T.den) : l19_5 K 0 x = none := rfl
theorem n19_5 (K k : Nat) (x : s19_5.T.den) : l19_5 K (k + 1) x = sh Try.prog (envOf (env19 K)) (piecesOf (ps19_5 K)) b19_5 [] (s19_5.T.enc x) (again s19_5 (l19_5 K k)) := by kernel_rfl
theorem p19_5 (K k : Nat) : ∀ C : Ctx, C.P = Try.prog → ∀ {R : Type}, PieceOk C (codeAt b19 [0, 1, 0, 1, 1, 1]) (piece (R := R) s19_5 (l19_5 K k)) :=
  loop_entry c19_5 (envOk19 K) (ps := ps19_5) psOk19_5 (z19_5 K) K (n19_5 K) k
noncomputable abbrev ps19 (K : Nat) : List PEntry := [⟨[0, 1, 0, 1, 1, 1], s19_5, l19_5 K K⟩]
theorem psOk19 (K : Nat) : PiecesOk Try.prog b19 (ps19 K) := morePs (p19_5 K K) (noPs)
noncomputable def F19 (K : Nat) (x : slotsDen A19) : Option (resDen R19) := sh Try.prog (envOf (env19 K)) (piecesOf (ps19 K)) b19 [] ⟨pad 44 (encSlots A19 x), []⟩ (fin Try.prog Try.f19.results.toList R19)
theorem q19 : Try.f19.body = some b19 := by kernel_rfl
theorem e19 (K : Nat) (x : slotsDen A19) : F19 K x = sh Try.prog (envOf (env19 K)) (piecesOf (ps19 K)) b19 [] ⟨pad Try.f19.ntmps (encSlots A19 x), []⟩ (fin Try.prog Try.f19.results.toList R19) := by kernel_rfl
theorem con19 (K : Nat) : Con Try.prog 19 A19 R19 (F19 K) := con_entry Try.func19 q19 (envOk19 K) (psOk19 K) (e19 K)

/- forkledger/forkledgerref1.AppendUint -/
abbrev A20 : List Pat := [.one (.sl (.int .u8)), .one (.int .u64), .one (.int .i64)]
abbrev R20 : List RPat := [.own 5 (.int .u8)]
noncomputable abbrev env20 (K : Nat) : List Entry := []
theorem envOk20 (K : Nat) : EnvOk Try.prog (env20 K) := noEnv
noncomputable def b20 : Code := bodyOf Try.f20
noncomputable def b20_3 : Code := loopBody (codeAt b20 [0, 1, 0, 1, 1])
abbrev s20_3 : Sh.Spec := ⟨⟨30, [(1, .one (.int .u64)), (7, .own 5007), (8, .one (.int .i64))], [(5007, .arr 5 (.int .u8))]⟩, [(7, 5007, 5, (.int .u8))], [⟨.exit 0, [(7, 5007, 5, (.int .u8))], ⟨30, [(7, .own 5007)], [(5007, .arr 5 (.int .u8))]⟩⟩]⟩
noncomputable def l20_3 (K : Nat) : Nat → s20_3.T.den → Option (xDen s20_3.X)
  | 0, _ => none
  | k + 1, x => sh Try.prog (envOf (env20 K)) (piecesOf []) b20_3 [] (s20_3.T.enc x) (again s20_3 (l20_3 K k))
noncomputable abbrev ps20_3 (K : Nat) : List PEntry := []
theorem psOk20_3 (K : Nat) : PiecesOk Try.prog b20_3 (ps20_3 K) := noPs
theorem c20_3 : codeAt b20 [0, 1, 0, 1, 1] = .loop b20_3 := by kernel_rfl
theorem z20_3 (K : Nat) (x : s20_3.T.den) : l20_3 K 0 x = none := rfl
theorem n20_3 (K k : Nat) (x : s20_3.T.den) : l20_3 K (k + 1) x = sh Try.prog (envOf (env20 K)) (piecesOf (ps20_3 K)) b20_3 [] (s20_3.T.enc x) (again s20_3 (l20_3 K k)) := by kernel_rfl
theorem p20_3 (K k : Nat) : ∀ C : Ctx, C.P = Try.prog → ∀ {R : Type}, PieceOk C (codeAt b20 [0, 1, 0, 1, 1]) (piece (R := R) s20_3 (l20_3 K k)) :=
  loop_entry c20_3 (envOk20 K) (ps := ps20_3) psOk20_3 (z20_3 K) K (n20_3 K) k
noncomputable abbrev ps20 (K : Nat) : List PEntry := [⟨[0, 1, 0, 1, 1], s20_3, l20_3 K K⟩]
theorem psOk20 (K : Nat) : PiecesOk Try.prog b20 (ps20 K) := morePs (p20_3 K K) (noPs)
noncomputable def F20 (K : Nat) (x : slotsDen A20) : Option (resDen R20) := sh Try.prog (envOf (env20 K)) (piecesOf (ps20 K)) b20 [] ⟨pad 30 (encSlots A20 x), []⟩ (fin Try.prog Try.f20.results.toList R20)
theorem q20 : Try.f20.body = some b20 := by kernel_rfl
theorem e20 (K : Nat) (x : slotsDen A20) : F20 K x = sh Try.prog (envOf (env20 K)) (piecesOf (ps20 K)) b20 [] ⟨pad Try.f20.ntmps (encSlots A20 x), []⟩ (fin Try.prog Try.f20.results.toList R20) := by kernel_rfl
theorem con20 (K : Nat) : Con Try.prog 20 A20 R20 (F20 K) := con_entry Try.func20 q20 (envOk20 K) (psOk20 K) (e20 K)

/- forkledger/forkledgerlaw2.CodecNumbers -/
abbrev A5 : List Pat := [.one (.sl (.int .u8)), .one (.int .u64), .one (.int .i64), .one (.int .i64), .one (.int .i64)]
abbrev R5 : List RPat := [.one .bool]
noncomputable abbrev env5 (K : Nat) : List Entry := [⟨18, A18, R18, F18 K⟩, ⟨19, A19, R19, F19 K⟩, ⟨15, A15, R15, F15 K⟩, ⟨20, A20, R20, F20 K⟩, ⟨13, A13, R13, F13 K⟩, ⟨9, A9, R9, F9 K⟩]
theorem envOk5 (K : Nat) : EnvOk Try.prog (env5 K) := moreEnv (con18 K) (moreEnv (con19 K) (moreEnv (con15 K) (moreEnv (con20 K) (moreEnv (con13 K) (moreEnv (con9 K) (noEnv))))))
noncomputable def b5 : Code := bodyOf Try.f5
noncomputable abbrev ps5 (K : Nat) : List PEntry := []
theorem psOk5 (K : Nat) : PiecesOk Try.prog b5 (ps5 K) := noPs
noncomputable def F5 (K : Nat) (x : slotsDen A5) : Option (resDen R5) := sh Try.prog (envOf (env5 K)) (piecesOf (ps5 K)) b5 [] ⟨pad 51 (encSlots A5 x), []⟩ (fin Try.prog Try.f5.results.toList R5)
theorem q5 : Try.f5.body = some b5 := by kernel_rfl
theorem e5 (K : Nat) (x : slotsDen A5) : F5 K x = sh Try.prog (envOf (env5 K)) (piecesOf (ps5 K)) b5 [] ⟨pad Try.f5.ntmps (encSlots A5 x), []⟩ (fin Try.prog Try.f5.results.toList R5) := by kernel_rfl
theorem con5 (K : Nat) : Con Try.prog 5 A5 R5 (F5 K) := con_entry Try.func5 q5 (envOk5 K) (psOk5 K) (e5 K)

/- forkledger/forkledgerref1.AppendBytes -/
abbrev A21 : List Pat := [.one (.sl (.int .u8)), .one (.sl (.int .u8))]
abbrev R21 : List RPat := [.own 5 (.int .u8), .one .bool]
noncomputable abbrev env21 (K : Nat) : List Entry := [⟨20, A20, R20, F20 K⟩]
theorem envOk21 (K : Nat) : EnvOk Try.prog (env21 K) := moreEnv (con20 K) (noEnv)
noncomputable def b21 : Code := bodyOf Try.f21
noncomputable abbrev ps21 (K : Nat) : List PEntry := []
theorem psOk21 (K : Nat) : PiecesOk Try.prog b21 (ps21 K) := noPs
noncomputable def F21 (K : Nat) (x : slotsDen A21) : Option (resDen R21) := sh Try.prog (envOf (env21 K)) (piecesOf (ps21 K)) b21 [] ⟨pad 16 (encSlots A21 x), []⟩ (fin Try.prog Try.f21.results.toList R21)
theorem q21 : Try.f21.body = some b21 := by kernel_rfl
theorem e21 (K : Nat) (x : slotsDen A21) : F21 K x = sh Try.prog (envOf (env21 K)) (piecesOf (ps21 K)) b21 [] ⟨pad Try.f21.ntmps (encSlots A21 x), []⟩ (fin Try.prog Try.f21.results.toList R21) := by kernel_rfl
theorem con21 (K : Nat) : Con Try.prog 21 A21 R21 (F21 K) := con_entry Try.func21 q21 (envOk21 K) (psOk21 K) (e21 K)

/- forkledger/codec.Bytes -/
abbrev A22 : List Pat := [.one (.sl (.int .u8)), .one (.int .i64)]
abbrev R22 : List RPat := [.own 5 (.int .u8), .one (.int .i64), .one .bool]
noncomputable abbrev env22 (K : Nat) : List Entry := [⟨18, A18, R18, F18 K⟩, ⟨29, A29, R29, F29 K⟩]
theorem envOk22 (K : Nat) : EnvOk Try.prog (env22 K) := moreEnv (con18 K) (moreEnv (con29 K) (noEnv))
noncomputable def b22 : Code := bodyOf Try.f22
noncomputable abbrev ps22 (K : Nat) : List PEntry := []
theorem psOk22 (K : Nat) : PiecesOk Try.prog b22 (ps22 K) := noPs
noncomputable def F22 (K : Nat) (x : slotsDen A22) : Option (resDen R22) := sh Try.prog (envOf (env22 K)) (piecesOf (ps22 K)) b22 [] ⟨pad 39 (encSlots A22 x), []⟩ (fin Try.prog Try.f22.results.toList R22)
theorem q22 : Try.f22.body = some b22 := by kernel_rfl
theorem e22 (K : Nat) (x : slotsDen A22) : F22 K x = sh Try.prog (envOf (env22 K)) (piecesOf (ps22 K)) b22 [] ⟨pad Try.f22.ntmps (encSlots A22 x), []⟩ (fin Try.prog Try.f22.results.toList R22) := by kernel_rfl
theorem con22 (K : Nat) : Con Try.prog 22 A22 R22 (F22 K) := con_entry Try.func22 q22 (envOk22 K) (psOk22 K) (e22 K)

/- forkledger/forkledgerref1.Bytes -/
abbrev A23 : List Pat := [.one (.sl (.int .u8)), .one (.int .i64)]
abbrev R23 : List RPat := [.own 5 (.int .u8), .one (.int .i64), .one .bool]
noncomputable abbrev env23 (K : Nat) : List Entry := [⟨19, A19, R19, F19 K⟩]
theorem envOk23 (K : Nat) : EnvOk Try.prog (env23 K) := moreEnv (con19 K) (noEnv)
noncomputable def b23 : Code := bodyOf Try.f23
noncomputable abbrev ps23 (K : Nat) : List PEntry := []
theorem psOk23 (K : Nat) : PiecesOk Try.prog b23 (ps23 K) := noPs
noncomputable def F23 (K : Nat) (x : slotsDen A23) : Option (resDen R23) := sh Try.prog (envOf (env23 K)) (piecesOf (ps23 K)) b23 [] ⟨pad 41 (encSlots A23 x), []⟩ (fin Try.prog Try.f23.results.toList R23)
theorem q23 : Try.f23.body = some b23 := by kernel_rfl
theorem e23 (K : Nat) (x : slotsDen A23) : F23 K x = sh Try.prog (envOf (env23 K)) (piecesOf (ps23 K)) b23 [] ⟨pad Try.f23.ntmps (encSlots A23 x), []⟩ (fin Try.prog Try.f23.results.toList R23) := by kernel_rfl
theorem con23 (K : Nat) : Con Try.prog 23 A23 R23 (F23 K) := con_entry Try.func23 q23 (envOk23 K) (psOk23 K) (e23 K)

/- forkledger/forkledgerlaw2.CodecStrings -/
abbrev A6 : List Pat := [.one (.sl (.int .u8)), .one (.sl (.int .u8)), .one (.int .i64), .one (.int .i64)]
abbrev R6 : List RPat := [.one .bool]
noncomputable abbrev env6 (K : Nat) : List Entry := [⟨16, A16, R16, F16 K⟩, ⟨21, A21, R21, F21 K⟩, ⟨22, A22, R22, F22 K⟩, ⟨23, A23, R23, F23 K⟩, ⟨13, A13, R13, F13 K⟩, ⟨9, A9, R9, F9 K⟩]
theorem envOk6 (K : Nat) : EnvOk Try.prog (env6 K) := moreEnv (con16 K) (moreEnv (con21 K) (moreEnv (con22 K) (moreEnv (con23 K) (moreEnv (con13 K) (moreEnv (con9 K) (noEnv))))))
noncomputable def b6 : Code := bodyOf Try.f6
noncomputable abbrev ps6 (K : Nat) : List PEntry := []
theorem psOk6 (K : Nat) : PiecesOk Try.prog b6 (ps6 K) := noPs
noncomputable def F6 (K : Nat) (x : slotsDen A6) : Option (resDen R6) := sh Try.prog (envOf (env6 K)) (piecesOf (ps6 K)) b6 [] ⟨pad 80 (encSlots A6 x), []⟩ (fin Try.prog Try.f6.results.toList R6)
theorem q6 : Try.f6.body = some b6 := by kernel_rfl
theorem e6 (K : Nat) (x : slotsDen A6) : F6 K x = sh Try.prog (envOf (env6 K)) (piecesOf (ps6 K)) b6 [] ⟨pad Try.f6.ntmps (encSlots A6 x), []⟩ (fin Try.prog Try.f6.results.toList R6) := by kernel_rfl
theorem con6 (K : Nat) : Con Try.prog 6 A6 R6 (F6 K) := con_entry Try.func6 q6 (envOk6 K) (psOk6 K) (e6 K)

/- forkledger/forkledgerref1.AppendNames -/
abbrev A24 : List Pat := [.one (.sl (.int .u8)), .one (.sl (.pr (.int .u8) (.pr (.int .u8) (.pr (.int .u8) (.pr (.int .u8) (.pr (.int .u8) (.pr (.int .u8) (.pr (.int .u8) (.int .u8)))))))))]
abbrev R24 : List RPat := [.own 5 (.int .u8), .one .bool]
noncomputable abbrev env24 (K : Nat) : List Entry := [⟨20, A20, R20, F20 K⟩]
theorem envOk24 (K : Nat) : EnvOk Try.prog (env24 K) := moreEnv (con20 K) (noEnv)
noncomputable def b24 : Code := bodyOf Try.f24
noncomputable def b24_5 : Code := loopBody (codeAt b24 [0, 1, 0, 1, 1, 1])
abbrev s24_5 : Sh.Spec := ⟨⟨29, [(1, .one (.sl (.pr (.int .u8) (.pr (.int .u8) (.pr (.int .u8) (.pr (.int .u8) (.pr (.int .u8) (.pr (.int .u8) (.pr (.int .u8) (.int .u8)))))))))), (6, .own 5006), (7, .one (.int .i64))], [(5006, .arr 5 (.int .u8))]⟩, [(6, 5006, 5, (.int .u8))], [⟨.exit 0, [(6, 5006, 5, (.int .u8))], ⟨29, [(6, .own 5006)], [(5006, .arr 5 (.int .u8))]⟩⟩]⟩
noncomputable def l24_5 (K : Nat) : Nat → s24_5.T.den → Option (xDen s24_5.X)
  | 0, _ => none
  | k + 1, x => sh Try.prog (envOf (env24 K)) (piecesOf []) b24_5 [] (s24_5.T.enc x) (again s24_5 (l24_5 K k))
noncomputable abbrev ps24_5 (K : Nat) : List PEntry := []
theorem psOk24_5 (K : Nat) : PiecesOk Try.prog b24_5 (ps24_5 K) := noPs
theorem c24_5 : codeAt b24 [0, 1, 0, 1, 1, 1] = .loop b24_5 := by kernel_rfl
theorem z24_5 (K : Nat) (x : s24_5.T.den) : l24_5 K 0 x = none := rfl
theorem n24_5 (K k : Nat) (x : s24_5.T.den) : l24_5 K (k + 1) x = sh Try.prog (envOf (env24 K)) (piecesOf (ps24_5 K)) b24_5 [] (s24_5.T.enc x) (again s24_5 (l24_5 K k)) := by kernel_rfl
theorem p24_5 (K k : Nat) : ∀ C : Ctx, C.P = Try.prog → ∀ {R : Type}, PieceOk C (codeAt b24 [0, 1, 0, 1, 1, 1]) (piece (R := R) s24_5 (l24_5 K k)) :=
  loop_entry c24_5 (envOk24 K) (ps := ps24_5) psOk24_5 (z24_5 K) K (n24_5 K) k
noncomputable abbrev ps24 (K : Nat) : List PEntry := [⟨[0, 1, 0, 1, 1, 1], s24_5, l24_5 K K⟩]
theorem psOk24 (K : Nat) : PiecesOk Try.prog b24 (ps24 K) := morePs (p24_5 K K) (noPs)
noncomputable def F24 (K : Nat) (x : slotsDen A24) : Option (resDen R24) := sh Try.prog (envOf (env24 K)) (piecesOf (ps24 K)) b24 [] ⟨pad 29 (encSlots A24 x), []⟩ (fin Try.prog Try.f24.results.toList R24)
theorem q24 : Try.f24.body = some b24 := by kernel_rfl
theorem e24 (K : Nat) (x : slotsDen A24) : F24 K x = sh Try.prog (envOf (env24 K)) (piecesOf (ps24 K)) b24 [] ⟨pad Try.f24.ntmps (encSlots A24 x), []⟩ (fin Try.prog Try.f24.results.toList R24) := by kernel_rfl
theorem con24 (K : Nat) : Con Try.prog 24 A24 R24 (F24 K) := con_entry Try.func24 q24 (envOk24 K) (psOk24 K) (e24 K)

/- forkledger/codec.Names -/
abbrev A25 : List Pat := [.one (.sl (.int .u8)), .one (.int .i64)]
abbrev R25 : List RPat := [.own 53 (.pr (.int .u8) (.pr (.int .u8) (.pr (.int .u8) (.pr (.int .u8) (.pr (.int .u8) (.pr (.int .u8) (.pr (.int .u8) (.int .u8)))))))), .one (.int .i64), .one .bool]
noncomputable abbrev env25 (K : Nat) : List Entry := [⟨18, A18, R18, F18 K⟩, ⟨29, A29, R29, F29 K⟩]
theorem envOk25 (K : Nat) : EnvOk Try.prog (env25 K) := moreEnv (con18 K) (moreEnv (con29 K) (noEnv))
noncomputable def b25 : Code := bodyOf Try.f25
noncomputable def b25_7 : Code := loopBody (codeAt b25 [0, 1, 0, 1, 1, 1, 1, 1])
abbrev s25_7 : Sh.Spec := ⟨⟨51, [(0, .one (.sl (.int .u8))), (1, .one (.int .i64)), (9, .own 5009), (34, .one (.int .i64)), (35, .one (.int .i64))], [(5009, .arr 53 (.pr (.int .u8) (.pr (.int .u8) (.pr (.int .u8) (.pr (.int .u8) (.pr (.int .u8) (.pr (.int .u8) (.pr (.int .u8) (.int .u8)))))))))]⟩, [(9, 5009, 53, (.pr (.int .u8) (.pr (.int .u8) (.pr (.int .u8) (.pr (.int .u8) (.pr (.int .u8) (.pr (.int .u8) (.pr (.int .u8) (.int .u8)))))))))], [⟨.exit 0, [(9, 5009, 53, (.pr (.int .u8) (.pr (.int .u8) (.pr (.int .u8) (.pr (.int .u8) (.pr (.int .u8) (.pr (.int .u8) (.pr (.int .u8) (.int .u8)))))))))], ⟨51, [(1, .one (.int .i64)), (9, .own 5009)], [(5009, .arr 53 (.pr (.int .u8) (.pr (.int .u8) (.pr (.int .u8) (.pr (.int .u8) (.pr (.int .u8) (.pr (.int .u8) (.pr (.int .u8) (.int .u8)))))))))]⟩⟩]⟩
noncomputable def l25_7 (K : Nat) : Nat → s25_7.T.den → Option (xDen s25_7.X)
  | 0, _ => none
  | k + 1, x => sh Try.prog (envOf (env25 K)) (piecesOf []) b25_7 [] (s25_7.T.enc x) (again s25_7 (l25_7 K k))
noncomputable abbrev ps25_7 (K : Nat) : List PEntry := []
theorem psOk25_7 (K : Nat) : PiecesOk Try.prog b25_7 (ps25_7 K) := noPs
theorem c25_7 : codeAt b25 [0, 1, 0, 1, 1, 1, 1, 1] = .loop b25_7 := by kernel_rfl
theorem z25_7 (K : Nat) (x : s25_7.T.den) : l25_7 K 0 x = none := rfl
theorem n25_7 (K k : Nat) (x : s25_7.T.den) : l25_7 K (k + 1) x = sh Try.prog (envOf (env25 K)) (piecesOf (ps25_7 K)) b25_7 [] (s25_7.T.enc x) (again s25_7 (l25_7 K k)) := by kernel_rfl
theorem p25_7 (K k : Nat) : ∀ C : Ctx, C.P = Try.prog → ∀ {R : Type}, PieceOk C (codeAt b25 [0, 1, 0, 1, 1, 1, 1, 1]) (piece (R := R) s25_7 (l25_7 K k)) :=
  loop_entry c25_7 (envOk25 K) (ps := ps25_7) psOk25_7 (z25_7 K) K (n25_7 K) k
noncomputable abbrev ps25 (K : Nat) : List PEntry := [⟨[0, 1, 0, 1, 1, 1, 1, 1], s25_7, l25_7 K K⟩]
theorem psOk25 (K : Nat) : PiecesOk Try.prog b25 (ps25 K) := morePs (p25_7 K K) (noPs)
noncomputable def F25 (K : Nat) (x : slotsDen A25) : Option (resDen R25) := sh Try.prog (envOf (env25 K)) (piecesOf (ps25 K)) b25 [] ⟨pad 51 (encSlots A25 x), []⟩ (fin Try.prog Try.f25.results.toList R25)
theorem q25 : Try.f25.body = some b25 := by kernel_rfl
theorem e25 (K : Nat) (x : slotsDen A25) : F25 K x = sh Try.prog (envOf (env25 K)) (piecesOf (ps25 K)) b25 [] ⟨pad Try.f25.ntmps (encSlots A25 x), []⟩ (fin Try.prog Try.f25.results.toList R25) := by kernel_rfl
theorem con25 (K : Nat) : Con Try.prog 25 A25 R25 (F25 K) := con_entry Try.func25 q25 (envOk25 K) (psOk25 K) (e25 K)

/- forkledger/forkledgerref1.Of -/
abbrev A30 : List Pat := [.one (.int .u64)]
abbrev R30 : List RPat := [.agg (.pr (.int .u8) (.pr (.int .u8) (.pr (.int .u8) (.pr (.int .u8) (.pr (.int .u8) (.pr (.int .u8) (.pr (.int .u8) (.int .u8))))))))]
noncomputable abbrev env30 (K : Nat) : List Entry := []
theorem envOk30 (K : Nat) : EnvOk Try.prog (env30 K) := noEnv
noncomputable def b30 : Code := bodyOf Try.f30
noncomputable abbrev ps30 (K : Nat) : List PEntry := []
theorem psOk30 (K : Nat) : PiecesOk Try.prog b30 (ps30 K) := noPs
noncomputable def F30 (K : Nat) (x : slotsDen A30) : Option (resDen R30) := sh Try.prog (envOf (env30 K)) (piecesOf (ps30 K)) b30 [] ⟨pad 27 (encSlots A30 x), []⟩ (fin Try.prog Try.f30.results.toList R30)
theorem q30 : Try.f30.body = some b30 := by kernel_rfl
theorem e30 (K : Nat) (x : slotsDen A30) : F30 K x = sh Try.prog (envOf (env30 K)) (piecesOf (ps30 K)) b30 [] ⟨pad Try.f30.ntmps (encSlots A30 x), []⟩ (fin Try.prog Try.f30.results.toList R30) := by kernel_rfl
theorem con30 (K : Nat) : Con Try.prog 30 A30 R30 (F30 K) := con_entry Try.func30 q30 (envOk30 K) (psOk30 K) (e30 K)

/- forkledger/forkledgerref1.Names -/
abbrev A26 : List Pat := [.one (.sl (.int .u8)), .one (.int .i64)]
abbrev R26 : List RPat := [.own 53 (.pr (.int .u8) (.pr (.int .u8) (.pr (.int .u8) (.pr (.int .u8) (.pr (.int .u8) (.pr (.int .u8) (.pr (.int .u8) (.int .u8)))))))), .one (.int .i64), .one .bool]
noncomputable abbrev env26 (K : Nat) : List Entry := [⟨19, A19, R19, F19 K⟩, ⟨30, A30, R30, F30 K⟩]
theorem envOk26 (K : Nat) : EnvOk Try.prog (env26 K) := moreEnv (con19 K) (moreEnv (con30 K) (noEnv))
noncomputable def b26 : Code := bodyOf Try.f26
noncomputable def b26_6 : Code := loopBody (codeAt b26 [0, 1, 0, 1, 1, 1, 1])
abbrev s26_6 : Sh.Spec := ⟨⟨60, [(0, .one (.sl (.int .u8))), (1, .one (.int .i64)), (7, .one (.int .u64)), (9, .own 5009), (10, .one (.int .i64))], [(5009, .arr 53 (.pr (.int .u8) (.pr (.int .u8) (.pr (.int .u8) (.pr (.int .u8) (.pr (.int .u8) (.pr (.int .u8) (.pr (.int .u8) (.int .u8)))))))))]⟩, [(9, 5009, 53, (.pr (.int .u8) (.pr (.int .u8) (.pr (.int .u8) (.pr (.int .u8) (.pr (.int .u8) (.pr (.int .u8) (.pr (.int .u8) (.int .u8)))))))))], [⟨.exit 0, [(9, 5009, 53, (.pr (.int .u8) (.pr (.int .u8) (.pr (.int .u8) (.pr (.int .u8) (.pr (.int .u8) (.pr (.int .u8) (.pr (.int .u8) (.int .u8)))))))))], ⟨60, [(1, .one (.int .i64)), (7, .one (.int .u64)), (9, .own 5009)], [(5009, .arr 53 (.pr (.int .u8) (.pr (.int .u8) (.pr (.int .u8) (.pr (.int .u8) (.pr (.int .u8) (.pr (.int .u8) (.pr (.int .u8) (.int .u8)))))))))]⟩⟩]⟩
noncomputable def l26_6 (K : Nat) : Nat → s26_6.T.den → Option (xDen s26_6.X)
  | 0, _ => none
  | k + 1, x => sh Try.prog (envOf (env26 K)) (piecesOf []) b26_6 [] (s26_6.T.enc x) (again s26_6 (l26_6 K k))
noncomputable abbrev ps26_6 (K : Nat) : List PEntry := []
theorem psOk26_6 (K : Nat) : PiecesOk Try.prog b26_6 (ps26_6 K) := noPs
theorem c26_6 : codeAt b26 [0, 1, 0, 1, 1, 1, 1] = .loop b26_6 := by kernel_rfl
theorem z26_6 (K : Nat) (x : s26_6.T.den) : l26_6 K 0 x = none := rfl
theorem n26_6 (K k : Nat) (x : s26_6.T.den) : l26_6 K (k + 1) x = sh Try.prog (envOf (env26 K)) (piecesOf (ps26_6 K)) b26_6 [] (s26_6.T.enc x) (again s26_6 (l26_6 K k)) := by kernel_rfl
theorem p26_6 (K k : Nat) : ∀ C : Ctx, C.P = Try.prog → ∀ {R : Type}, PieceOk C (codeAt b26 [0, 1, 0, 1, 1, 1, 1]) (piece (R := R) s26_6 (l26_6 K k)) :=
  loop_entry c26_6 (envOk26 K) (ps := ps26_6) psOk26_6 (z26_6 K) K (n26_6 K) k
noncomputable abbrev ps26 (K : Nat) : List PEntry := [⟨[0, 1, 0, 1, 1, 1, 1], s26_6, l26_6 K K⟩]
theorem psOk26 (K : Nat) : PiecesOk Try.prog b26 (ps26 K) := morePs (p26_6 K K) (noPs)
noncomputable def F26 (K : Nat) (x : slotsDen A26) : Option (resDen R26) := sh Try.prog (envOf (env26 K)) (piecesOf (ps26 K)) b26 [] ⟨pad 60 (encSlots A26 x), []⟩ (fin Try.prog Try.f26.results.toList R26)
theorem q26 : Try.f26.body = some b26 := by kernel_rfl
theorem e26 (K : Nat) (x : slotsDen A26) : F26 K x = sh Try.prog (envOf (env26 K)) (piecesOf (ps26 K)) b26 [] ⟨pad Try.f26.ntmps (encSlots A26 x), []⟩ (fin Try.prog Try.f26.results.toList R26) := by kernel_rfl
theorem con26 (K : Nat) : Con Try.prog 26 A26 R26 (F26 K) := con_entry Try.func26 q26 (envOk26 K) (psOk26 K) (e26 K)

/- forkledger/forkledgerlaw2.CodecNames -/
abbrev A7 : List Pat := [.one (.sl (.int .u8)), .one (.sl (.pr (.int .u8) (.pr (.int .u8) (.pr (.int .u8) (.pr (.int .u8) (.pr (.int .u8) (.pr (.int .u8) (.pr (.int .u8) (.int .u8))))))))), .one (.int .i64), .one (.int .i64)]
abbrev R7 : List RPat := [.one .bool]
noncomputable abbrev env7 (K : Nat) : List Entry := [⟨17, A17, R17, F17 K⟩, ⟨24, A24, R24, F24 K⟩, ⟨25, A25, R25, F25 K⟩, ⟨26, A26, R26, F26 K⟩, ⟨13, A13, R13, F13 K⟩, ⟨14, A14, R14, F14 K⟩, ⟨9, A9, R9, F9 K⟩]
theorem envOk7 (K : Nat) : EnvOk Try.prog (env7 K) := moreEnv (con17 K) (moreEnv (con24 K) (moreEnv (con25 K) (moreEnv (con26 K) (moreEnv (con13 K) (moreEnv (con14 K) (moreEnv (con9 K) (noEnv)))))))
noncomputable def b7 : Code := bodyOf Try.f7
noncomputable abbrev ps7 (K : Nat) : List PEntry := []
theorem psOk7 (K : Nat) : PiecesOk Try.prog b7 (ps7 K) := noPs
noncomputable def F7 (K : Nat) (x : slotsDen A7) : Option (resDen R7) := sh Try.prog (envOf (env7 K)) (piecesOf (ps7 K)) b7 [] ⟨pad 80 (encSlots A7 x), []⟩ (fin Try.prog Try.f7.results.toList R7)
theorem q7 : Try.f7.body = some b7 := by kernel_rfl
theorem e7 (K : Nat) (x : slotsDen A7) : F7 K x = sh Try.prog (envOf (env7 K)) (piecesOf (ps7 K)) b7 [] ⟨pad Try.f7.ntmps (encSlots A7 x), []⟩ (fin Try.prog Try.f7.results.toList R7) := by kernel_rfl
theorem con7 (K : Nat) : Con Try.prog 7 A7 R7 (F7 K) := con_entry Try.func7 q7 (envOk7 K) (psOk7 K) (e7 K)

/- forkledger/forkledgerlaw2.CodecBack -/
abbrev A8 : List Pat := [.one (.sl (.int .u8)), .one (.sl (.pr (.int .i64) (.pr (.int .i64) (.pr (.int .u64) (.pr (.sl (.int .u8)) (.sl (.pr (.int .u8) (.pr (.int .u8) (.pr (.int .u8) (.pr (.int .u8) (.pr (.int .u8) (.pr (.int .u8) (.pr (.int .u8) (.int .u8))))))))))))))]
abbrev R8 : List RPat := [.one .bool]
noncomputable abbrev env8 (K : Nat) : List Entry := [⟨9, A9, R9, F9 K⟩, ⟨10, A10, R10, F10 K⟩, ⟨11, A11, R11, F11 K⟩, ⟨27, A27, R27, F27 K⟩, ⟨18, A18, R18, F18 K⟩, ⟨12, A12, R12, F12 K⟩, ⟨22, A22, R22, F22 K⟩, ⟨13, A13, R13, F13 K⟩, ⟨25, A25, R25, F25 K⟩, ⟨14, A14, R14, F14 K⟩]
theorem envOk8 (K : Nat) : EnvOk Try.prog (env8 K) := moreEnv (con9 K) (moreEnv (con10 K) (moreEnv (con11 K) (moreEnv (con27 K) (moreEnv (con18 K) (moreEnv (con12 K) (moreEnv (con22 K) (moreEnv (con13 K) (moreEnv (con25 K) (moreEnv (con14 K) (noEnv))))))))))
noncomputable def b8 : Code := bodyOf Try.f8
noncomputable def b8_6 : Code := loopBody (codeAt b8 [0, 1, 0, 0, 1, 0, 1, 1, 1])
abbrev s8_6 : Sh.Spec := ⟨⟨146, [(1, .one (.sl (.pr (.int .i64) (.pr (.int .i64) (.pr (.int .u64) (.pr (.sl (.int .u8)) (.sl (.pr (.int .u8) (.pr (.int .u8) (.pr (.int .u8) (.pr (.int .u8) (.pr (.int .u8) (.pr (.int .u8) (.pr (.int .u8) (.int .u8))))))))))))))), (7, .one (.int .i64))], []⟩, [], [⟨.exit 0, [], ⟨146, [], []⟩⟩, ⟨.ret, [], ⟨146, [(4, .one .bool)], []⟩⟩]⟩
noncomputable def l8_6 (K : Nat) : Nat → s8_6.T.den → Option (xDen s8_6.X)
  | 0, _ => none
  | k + 1, x => sh Try.prog (envOf (env8 K)) (piecesOf []) b8_6 [] (s8_6.T.enc x) (again s8_6 (l8_6 K k))
noncomputable abbrev ps8_6 (K : Nat) : List PEntry := []
theorem psOk8_6 (K : Nat) : PiecesOk Try.prog b8_6 (ps8_6 K) := noPs
theorem c8_6 : codeAt b8 [0, 1, 0, 0, 1, 0, 1, 1, 1] = .loop b8_6 := by kernel_rfl
theorem z8_6 (K : Nat) (x : s8_6.T.den) : l8_6 K 0 x = none := rfl
theorem n8_6 (K k : Nat) (x : s8_6.T.den) : l8_6 K (k + 1) x = sh Try.prog (envOf (env8 K)) (piecesOf (ps8_6 K)) b8_6 [] (s8_6.T.enc x) (again s8_6 (l8_6 K k)) := by kernel_rfl
theorem p8_6 (K k : Nat) : ∀ C : Ctx, C.P = Try.prog → ∀ {R : Type}, PieceOk C (codeAt b8 [0, 1, 0, 0, 1, 0, 1, 1, 1]) (piece (R := R) s8_6 (l8_6 K k)) :=
  loop_entry c8_6 (envOk8 K) (ps := ps8_6) psOk8_6 (z8_6 K) K (n8_6 K) k
noncomputable def b8_13 : Code := loopBody (codeAt b8 [0, 1, 0, 1, 1, 1, 1, 1])
abbrev s8_13 : Sh.Spec := ⟨⟨146, [(1, .one (.sl (.pr (.int .i64) (.pr (.int .i64) (.pr (.int .u64) (.pr (.sl (.int .u8)) (.sl (.pr (.int .u8) (.pr (.int .u8) (.pr (.int .u8) (.pr (.int .u8) (.pr (.int .u8) (.pr (.int .u8) (.pr (.int .u8) (.int .u8))))))))))))))), (5, .one (.sl (.int .u8))), (8, .one (.int .i64)), (9, .one (.int .i64))], []⟩, [], [⟨.exit 2, [], ⟨146, [(5, .one (.sl (.int .u8))), (8, .one (.int .i64))], []⟩⟩, ⟨.ret, [], ⟨146, [(4, .one .bool)], []⟩⟩]⟩
noncomputable def l8_13 (K : Nat) : Nat → s8_13.T.den → Option (xDen s8_13.X)
  | 0, _ => none
  | k + 1, x => sh Try.prog (envOf (env8 K)) (piecesOf []) b8_13 [] (s8_13.T.enc x) (again s8_13 (l8_13 K k))
noncomputable abbrev ps8_13 (K : Nat) : List PEntry := []
theorem psOk8_13 (K : Nat) : PiecesOk Try.prog b8_13 (ps8_13 K) := noPs
theorem c8_13 : codeAt b8 [0, 1, 0, 1, 1, 1, 1, 1] = .loop b8_13 := by kernel_rfl
theorem z8_13 (K : Nat) (x : s8_13.T.den) : l8_13 K 0 x = none := rfl
theorem n8_13 (K k : Nat) (x : s8_13.T.den) : l8_13 K (k + 1) x = sh Try.prog (envOf (env8 K)) (piecesOf (ps8_13 K)) b8_13 [] (s8_13.T.enc x) (again s8_13 (l8_13 K k)) := by kernel_rfl
theorem p8_13 (K k : Nat) : ∀ C : Ctx, C.P = Try.prog → ∀ {R : Type}, PieceOk C (codeAt b8 [0, 1, 0, 1, 1, 1, 1, 1]) (piece (R := R) s8_13 (l8_13 K k)) :=
  loop_entry c8_13 (envOk8 K) (ps := ps8_13) psOk8_13 (z8_13 K) K (n8_13 K) k
noncomputable abbrev ps8 (K : Nat) : List PEntry := [⟨[0, 1, 0, 0, 1, 0, 1, 1, 1], s8_6, l8_6 K K⟩, ⟨[0, 1, 0, 1, 1, 1, 1, 1], s8_13, l8_13 K K⟩]
theorem psOk8 (K : Nat) : PiecesOk Try.prog b8 (ps8 K) := morePs (p8_6 K K) (morePs (p8_13 K K) (noPs))
noncomputable def F8 (K : Nat) (x : slotsDen A8) : Option (resDen R8) := sh Try.prog (envOf (env8 K)) (piecesOf (ps8 K)) b8 [] ⟨pad 146 (encSlots A8 x), []⟩ (fin Try.prog Try.f8.results.toList R8)
theorem q8 : Try.f8.body = some b8 := by kernel_rfl
theorem e8 (K : Nat) (x : slotsDen A8) : F8 K x = sh Try.prog (envOf (env8 K)) (piecesOf (ps8 K)) b8 [] ⟨pad Try.f8.ntmps (encSlots A8 x), []⟩ (fin Try.prog Try.f8.results.toList R8) := by kernel_rfl
theorem con8 (K : Nat) : Con Try.prog 8 A8 R8 (F8 K) := con_entry Try.func8 q8 (envOk8 K) (psOk8 K) (e8 K)

end Go.Proofs.Ytpjfaodemfjfjaa
