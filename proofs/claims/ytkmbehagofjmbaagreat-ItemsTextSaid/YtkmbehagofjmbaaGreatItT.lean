import Derived.Test.YtkmbehagofjmbaaGreatItXn
set_option maxRecDepth 100000
set_option linter.unusedVariables false
namespace Go.Proofs.YtkmbehagofjmbaaGreat
open Go Go.Sh Go.Proofs
/- forkledger/items.Text -/
abbrev A23 : List Pat := [.one (.sl (.sl (.int .u8))), .agg (.pr (.int .u8) (.pr (.int .u8) (.pr (.int .u8) (.pr (.int .u8) (.pr (.int .u8) (.pr (.int .u8) (.pr (.int .u8) (.int .u8))))))))]
abbrev R23 : List RPat := [.own 5 (.int .u8), .one .bool]
abbrev I23 : List (Nat × OPat) := []
abbrev O23 : List (Nat × OPat) := []
noncomputable abbrev env23 (K : Nat) : List Entry := [⟨29, A29, I29, R29, O29, G29⟩, ⟨51, A51, I51, R51, O51, G51⟩, ⟨52, A52, I52, R52, O52, G52⟩]
theorem envOk23 (K : Nat) : EnvOk Tryz.prog (env23 K) := moreEnv con29 (moreEnv con51 (moreEnv con52 (noEnv)))
noncomputable def b23 : Code := bodyOf Tryz.f23
noncomputable def b23_4 : Code := loopBody (codeAt b23 [0, 1, 0, 1, 1, 1])
noncomputable abbrev ps23_4 (K : Nat) : List PEntry := []
theorem psOk23_4 (K : Nat) : PiecesOk Tryz.prog b23_4 (ps23_4 K) := noPs
abbrev s23_4 : Sh.Spec := ⟨⟨35, [(3, .ptr 3), (6, .one (.sl (.int .u8))), (7, .one .bool), (10, .one (.sl (.sl (.int .u8)))), (11, .one (.int .i64)), (12, .one (.int .i64))], [(3, .box (.pr (.int .u8) (.pr (.int .u8) (.pr (.int .u8) (.pr (.int .u8) (.pr (.int .u8) (.pr (.int .u8) (.pr (.int .u8) (.int .u8)))))))))], []⟩, [], [⟨.exit 0, [], ⟨35, [(6, .one (.sl (.int .u8))), (7, .one .bool)], [], []⟩⟩]⟩
noncomputable def l23_4 (K : Nat) : Nat → s23_4.T.den → Option (xDen s23_4.X)
  | 0, _ => none
  | k + 1, x => shL Tryz.prog (env23 K) (ps23_4 K) b23_4 s23_4 (l23_4 K k) x
theorem c23_4 : codeAt b23 [0, 1, 0, 1, 1, 1] = .loop b23_4 := by kernel_rfl
theorem p23_4 (K k : Nat) : ∀ C : Ctx, C.P = Tryz.prog → ∀ {R : Type}, PieceOk C (codeAt b23 [0, 1, 0, 1, 1, 1]) (piece (R := R) s23_4 (l23_4 K k)) :=
  loop_entry c23_4 (envOk23 K) (ps := fun _ => ps23_4 K) (fun _ => psOk23_4 K) (fun _ => rfl) K (fun _ _ => rfl) k
noncomputable abbrev ps23 (K : Nat) : List PEntry := [⟨[0, 1, 0, 1, 1, 1], s23_4, l23_4 K K⟩]
theorem psOk23 (K : Nat) : PiecesOk Tryz.prog b23 (ps23 K) := morePs (p23_4 K K) (noPs)
noncomputable abbrev cs23 (K : Nat) : List CEntry := []
theorem csOk23 (K : Nat) : CsOk Tryz.prog b23 (cs23 K) := trivial
noncomputable def F23 (K : Nat) : inDen A23 I23 → Option (outDen R23 O23) := shF Tryz.prog (env23 K) (ps23 K) (cs23 K) b23 Tryz.f23 [] A23 I23 R23 O23
theorem q23 : Tryz.f23.body = some b23 := by kernel_rfl
theorem raw23 (K : Nat) : Con Tryz.prog 23 A23 I23 R23 O23 (F23 K) := con_entry_f Tryz.func23 q23 rfl (envOk23 K) (psOk23 K) (csOk23 K) []
/- forkledger/forkledgerref25.Text -/
abbrev A24 : List Pat := [.one (.sl (.sl (.int .u8))), .agg (.pr (.int .u8) (.pr (.int .u8) (.pr (.int .u8) (.pr (.int .u8) (.pr (.int .u8) (.pr (.int .u8) (.pr (.int .u8) (.int .u8))))))))]
abbrev R24 : List RPat := [.own 5 (.int .u8), .one .bool]
abbrev I24 : List (Nat × OPat) := []
abbrev O24 : List (Nat × OPat) := []
noncomputable abbrev env24 (K : Nat) : List Entry := [⟨22, A22, I22, R22, O22, G22⟩]
theorem envOk24 (K : Nat) : EnvOk Tryz.prog (env24 K) := moreEnv con22 (noEnv)
noncomputable def b24 : Code := bodyOf Tryz.f24
noncomputable def b24_4 : Code := loopBody (codeAt b24 [0, 1, 0, 1, 1, 1])
noncomputable abbrev ps24_4 (K : Nat) : List PEntry := []
theorem psOk24_4 (K : Nat) : PiecesOk Tryz.prog b24_4 (ps24_4 K) := noPs
abbrev s24_4 : Sh.Spec := ⟨⟨44, [(0, .one (.sl (.sl (.int .u8)))), (3, .ptr 3), (6, .one (.sl (.int .u8))), (7, .one .bool), (8, .one (.int .i64))], [(3, .box (.pr (.int .u8) (.pr (.int .u8) (.pr (.int .u8) (.pr (.int .u8) (.pr (.int .u8) (.pr (.int .u8) (.pr (.int .u8) (.int .u8)))))))))], []⟩, [], [⟨.exit 0, [], ⟨44, [(6, .one (.sl (.int .u8))), (7, .one .bool)], [], []⟩⟩]⟩
noncomputable def l24_4 (K : Nat) : Nat → s24_4.T.den → Option (xDen s24_4.X)
  | 0, _ => none
  | k + 1, x => shL Tryz.prog (env24 K) (ps24_4 K) b24_4 s24_4 (l24_4 K k) x
theorem c24_4 : codeAt b24 [0, 1, 0, 1, 1, 1] = .loop b24_4 := by kernel_rfl
theorem p24_4 (K k : Nat) : ∀ C : Ctx, C.P = Tryz.prog → ∀ {R : Type}, PieceOk C (codeAt b24 [0, 1, 0, 1, 1, 1]) (piece (R := R) s24_4 (l24_4 K k)) :=
  loop_entry c24_4 (envOk24 K) (ps := fun _ => ps24_4 K) (fun _ => psOk24_4 K) (fun _ => rfl) K (fun _ _ => rfl) k
noncomputable abbrev ps24 (K : Nat) : List PEntry := [⟨[0, 1, 0, 1, 1, 1], s24_4, l24_4 K K⟩]
theorem psOk24 (K : Nat) : PiecesOk Tryz.prog b24 (ps24 K) := morePs (p24_4 K K) (noPs)
noncomputable abbrev cs24 (K : Nat) : List CEntry := []
theorem csOk24 (K : Nat) : CsOk Tryz.prog b24 (cs24 K) := trivial
noncomputable def F24 (K : Nat) : inDen A24 I24 → Option (outDen R24 O24) := shF Tryz.prog (env24 K) (ps24 K) (cs24 K) b24 Tryz.f24 [] A24 I24 R24 O24
theorem q24 : Tryz.f24.body = some b24 := by kernel_rfl
theorem raw24 (K : Nat) : Con Tryz.prog 24 A24 I24 R24 O24 (F24 K) := con_entry_f Tryz.func24 q24 rfl (envOk24 K) (psOk24 K) (csOk24 K) []
end Go.Proofs.YtkmbehagofjmbaaGreat
