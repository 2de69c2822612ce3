/-
  The contract of CodecFresh: printed by a program of ours (wip/gen), the loops' states by hand (an array of three lists of the call's own; the inner loop once for each of them).
-/
import Derived.Test.YtpjfaodemfjfjaaCod
set_option maxRecDepth 100000
set_option linter.unusedVariables false
namespace Go.Proofs.Ytpjfaodemfjfjaa
open Go Go.Sh Go.Proofs

/- forkledger/forkledgerlaw2.CodecFresh -/
abbrev A4 : List Pat := [.one (.sl (.int .u8)), .one (.sl (.int .u8)), .one (.sl (.int .u8)), .one (.int .u64), .one (.int .i64), .one (.sl (.pr (.int .u8) (.pr (.int .u8) (.pr (.int .u8) (.pr (.int .u8) (.pr (.int .u8) (.pr (.int .u8) (.pr (.int .u8) (.int .u8)))))))))]
abbrev R4 : List RPat := [.one .bool]
abbrev I4 : List (Nat × OPat) := []
abbrev O4 : List (Nat × OPat) := []
noncomputable abbrev env4 (K : Nat) : List Entry := [⟨15, A15, I15, R15, O15, F15 K⟩, ⟨16, A16, I16, R16, O16, F16 K⟩, ⟨17, A17, I17, R17, O17, F17 K⟩, ⟨9, A9, I9, R9, O9, F9 K⟩]
theorem envOk4 (K : Nat) : EnvOk Try.prog (env4 K) := moreEnv (con15 K) (moreEnv (con16 K) (moreEnv (con17 K) (moreEnv (con9 K) (noEnv))))
noncomputable def b4 : Code := bodyOf Try.f4
noncomputable def b4_10 : Code := loopBody (codeAt b4 [0, 1, 0, 1, 1, 1, 1, 1, 1, 1, 1])
noncomputable def b4_13 : Code := loopBody (codeAt b4_10 [0, 1, 1, 0, 0, 1, 1])
noncomputable abbrev ps4_13 (K : Nat) : List PEntry := []
theorem psOk4_13 (K : Nat) : PiecesOk Try.prog b4_13 (ps4_13 K) := noPs
theorem c4_13 : codeAt b4_10 [0, 1, 1, 0, 0, 1, 1] = .loop b4_13 := by kernel_rfl
abbrev s4_13a : Sh.Spec := ⟨⟨95, [(13, .own 30), (14, .one .str), (22, .own 451000000), (23, .one (.int .i64)), (71, .mix [.own 451000000, .own 491000000, .own 551000000]), (72, .one (.int .i64))], [(30, .arr 5 (.int .u8)), (451000000, .arr 5 (.int .u8)), (491000000, .arr 5 (.int .u8)), (551000000, .arr 5 (.int .u8))], []⟩, [], [⟨.exit 2, [], ⟨95, [(13, .own 30), (14, .one .str), (71, .mix [.own 451000000, .own 491000000, .own 551000000]), (72, .one (.int .i64))], [(30, .arr 5 (.int .u8)), (451000000, .arr 5 (.int .u8)), (491000000, .arr 5 (.int .u8)), (551000000, .arr 5 (.int .u8))], []⟩⟩]⟩
noncomputable def l4_13a (K : Nat) : Nat → s4_13a.T.den → Option (xDen s4_13a.X)
  | 0, _ => none
  | k + 1, x => sh Try.prog (envOf (env4 K)) (piecesOf []) b4_13 [] (s4_13a.T.enc x) (again s4_13a (l4_13a K k))
theorem z4_13a (K : Nat) (x : s4_13a.T.den) : l4_13a K 0 x = none := rfl
theorem n4_13a (K k : Nat) (x : s4_13a.T.den) : l4_13a K (k + 1) x = sh Try.prog (envOf (env4 K)) (piecesOf (ps4_13 K)) b4_13 [] (s4_13a.T.enc x) (again s4_13a (l4_13a K k)) := by kernel_rfl
theorem p4_13a (K k : Nat) : ∀ C : Ctx, C.P = Try.prog → ∀ {R : Type}, PieceOk C (codeAt b4_10 [0, 1, 1, 0, 0, 1, 1]) (piece (R := R) s4_13a (l4_13a K k)) :=
  loop_entry c4_13 (envOk4 K) (ps := ps4_13) psOk4_13 (z4_13a K) K (n4_13a K) k
abbrev s4_13b : Sh.Spec := ⟨⟨95, [(13, .own 30), (14, .one .str), (22, .own 491000000), (23, .one (.int .i64)), (71, .mix [.own 451000000, .own 491000000, .own 551000000]), (72, .one (.int .i64))], [(30, .arr 5 (.int .u8)), (451000000, .arr 5 (.int .u8)), (491000000, .arr 5 (.int .u8)), (551000000, .arr 5 (.int .u8))], []⟩, [], [⟨.exit 2, [], ⟨95, [(13, .own 30), (14, .one .str), (71, .mix [.own 451000000, .own 491000000, .own 551000000]), (72, .one (.int .i64))], [(30, .arr 5 (.int .u8)), (451000000, .arr 5 (.int .u8)), (491000000, .arr 5 (.int .u8)), (551000000, .arr 5 (.int .u8))], []⟩⟩]⟩
noncomputable def l4_13b (K : Nat) : Nat → s4_13b.T.den → Option (xDen s4_13b.X)
  | 0, _ => none
  | k + 1, x => sh Try.prog (envOf (env4 K)) (piecesOf []) b4_13 [] (s4_13b.T.enc x) (again s4_13b (l4_13b K k))
theorem z4_13b (K : Nat) (x : s4_13b.T.den) : l4_13b K 0 x = none := rfl
theorem n4_13b (K k : Nat) (x : s4_13b.T.den) : l4_13b K (k + 1) x = sh Try.prog (envOf (env4 K)) (piecesOf (ps4_13 K)) b4_13 [] (s4_13b.T.enc x) (again s4_13b (l4_13b K k)) := by kernel_rfl
theorem p4_13b (K k : Nat) : ∀ C : Ctx, C.P = Try.prog → ∀ {R : Type}, PieceOk C (codeAt b4_10 [0, 1, 1, 0, 0, 1, 1]) (piece (R := R) s4_13b (l4_13b K k)) :=
  loop_entry c4_13 (envOk4 K) (ps := ps4_13) psOk4_13 (z4_13b K) K (n4_13b K) k
abbrev s4_13c : Sh.Spec := ⟨⟨95, [(13, .own 30), (14, .one .str), (22, .own 551000000), (23, .one (.int .i64)), (71, .mix [.own 451000000, .own 491000000, .own 551000000]), (72, .one (.int .i64))], [(30, .arr 5 (.int .u8)), (451000000, .arr 5 (.int .u8)), (491000000, .arr 5 (.int .u8)), (551000000, .arr 5 (.int .u8))], []⟩, [], [⟨.exit 2, [], ⟨95, [(13, .own 30), (14, .one .str), (71, .mix [.own 451000000, .own 491000000, .own 551000000]), (72, .one (.int .i64))], [(30, .arr 5 (.int .u8)), (451000000, .arr 5 (.int .u8)), (491000000, .arr 5 (.int .u8)), (551000000, .arr 5 (.int .u8))], []⟩⟩]⟩
noncomputable def l4_13c (K : Nat) : Nat → s4_13c.T.den → Option (xDen s4_13c.X)
  | 0, _ => none
  | k + 1, x => sh Try.prog (envOf (env4 K)) (piecesOf []) b4_13 [] (s4_13c.T.enc x) (again s4_13c (l4_13c K k))
theorem z4_13c (K : Nat) (x : s4_13c.T.den) : l4_13c K 0 x = none := rfl
theorem n4_13c (K k : Nat) (x : s4_13c.T.den) : l4_13c K (k + 1) x = sh Try.prog (envOf (env4 K)) (piecesOf (ps4_13 K)) b4_13 [] (s4_13c.T.enc x) (again s4_13c (l4_13c K k)) := by kernel_rfl
theorem p4_13c (K k : Nat) : ∀ C : Ctx, C.P = Try.prog → ∀ {R : Type}, PieceOk C (codeAt b4_10 [0, 1, 1, 0, 0, 1, 1]) (piece (R := R) s4_13c (l4_13c K k)) :=
  loop_entry c4_13 (envOk4 K) (ps := ps4_13) psOk4_13 (z4_13c K) K (n4_13c K) k
noncomputable abbrev ps4_10 (K : Nat) : List PEntry := [⟨[0, 1, 1, 0, 0, 1, 1], s4_13a, l4_13a K K⟩, ⟨[0, 1, 1, 0, 0, 1, 1], s4_13b, l4_13b K K⟩, ⟨[0, 1, 1, 0, 0, 1, 1], s4_13c, l4_13c K K⟩]
theorem psOk4_10 (K : Nat) : PiecesOk Try.prog b4_10 (ps4_10 K) := morePs (p4_13a K K) (morePs (p4_13b K K) (morePs (p4_13c K K) (noPs)))
abbrev s4_10 : Sh.Spec := ⟨⟨95, [(13, .own 30), (14, .one .str), (71, .mix [.own 451000000, .own 491000000, .own 551000000]), (72, .one (.int .i64))], [(30, .arr 5 (.int .u8)), (451000000, .arr 5 (.int .u8)), (491000000, .arr 5 (.int .u8)), (551000000, .arr 5 (.int .u8))], []⟩, [], [⟨.exit 0, [], ⟨95, [(13, .own 30), (14, .one .str)], [(30, .arr 5 (.int .u8))], []⟩⟩]⟩
noncomputable def l4_10 (K : Nat) : Nat → s4_10.T.den → Option (xDen s4_10.X)
  | 0, _ => none
  | k + 1, x => sh Try.prog (envOf (env4 K)) (piecesOf [⟨[0, 1, 1, 0, 0, 1, 1], s4_13a, l4_13a K K⟩, ⟨[0, 1, 1, 0, 0, 1, 1], s4_13b, l4_13b K K⟩, ⟨[0, 1, 1, 0, 0, 1, 1], s4_13c, l4_13c K K⟩]) b4_10 [] (s4_10.T.enc x) (again s4_10 (l4_10 K k))
theorem c4_10 : codeAt b4 [0, 1, 0, 1, 1, 1, 1, 1, 1, 1, 1] = .loop b4_10 := by kernel_rfl
theorem z4_10 (K : Nat) (x : s4_10.T.den) : l4_10 K 0 x = none := rfl
theorem n4_10 (K k : Nat) (x : s4_10.T.den) : l4_10 K (k + 1) x = sh Try.prog (envOf (env4 K)) (piecesOf (ps4_10 K)) b4_10 [] (s4_10.T.enc x) (again s4_10 (l4_10 K k)) := by kernel_rfl
theorem p4_10 (K k : Nat) : ∀ C : Ctx, C.P = Try.prog → ∀ {R : Type}, PieceOk C (codeAt b4 [0, 1, 0, 1, 1, 1, 1, 1, 1, 1, 1]) (piece (R := R) s4_10 (l4_10 K k)) :=
  loop_entry c4_10 (envOk4 K) (ps := ps4_10) psOk4_10 (z4_10 K) K (n4_10 K) k
noncomputable abbrev ps4 (K : Nat) : List PEntry := [⟨[0, 1, 0, 1, 1, 1, 1, 1, 1, 1, 1], s4_10, l4_10 K K⟩]
theorem psOk4 (K : Nat) : PiecesOk Try.prog b4 (ps4 K) := morePs (p4_10 K K) (noPs)
noncomputable def F4 (K : Nat) (x : inDen A4 I4) : Option (outDen R4 O4) := sh Try.prog (envOf (env4 K)) (piecesOf (ps4 K)) b4 [] ⟨pad 95 (encSlots (fun i => i) A4 (inArgs I4 x)), encObjs (fun i => i) I4 (inObjs I4 x), oids I4⟩ (fin Try.prog Try.f4.results.toList I4 R4 O4)
theorem q4 : Try.f4.body = some b4 := by kernel_rfl
theorem e4 (K : Nat) (x : inDen A4 I4) : F4 K x = sh Try.prog (envOf (env4 K)) (piecesOf (ps4 K)) b4 [] (atEntry Try.f4 A4 I4 x) (fin Try.prog Try.f4.results.toList I4 R4 O4) := by kernel_rfl
theorem con4 (K : Nat) : Con Try.prog 4 A4 I4 R4 O4 (F4 K) := con_entry Try.func4 q4 rfl (envOk4 K) (psOk4 K) (e4 K)

end Go.Proofs.Ytpjfaodemfjfjaa
