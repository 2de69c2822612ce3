import Derived.Test.YtkmbehagofjmbaaGreatItTg
import Derived.Test.YtkmbehagofjmbaaGreatAwk
set_option maxRecDepth 100000
set_option linter.unusedVariables false
namespace Go.Proofs.YtkmbehagofjmbaaGreat
open Go Go.Sh Go.Proofs
/- forkledger/forkledgerlaw25.awake -/
abbrev A6 : List Pat := []
abbrev R6 : List RPat := [.one .bool]
abbrev I6 : List (Nat × OPat) := []
abbrev O6 : List (Nat × OPat) := []
def G6 (x : Unit) : Option (Bool × Unit) := some (true, ())
theorem con6 : Con Tryz.prog 6 A6 I6 R6 O6 G6 := con_awake
/- forkledger/forkledgerlaw25.ItemsText -/
abbrev A5 : List Pat := [.one (.sl (.sl (.int .u8))), .agg (.pr (.int .u8) (.pr (.int .u8) (.pr (.int .u8) (.pr (.int .u8) (.pr (.int .u8) (.pr (.int .u8) (.pr (.int .u8) (.int .u8)))))))), .one (.int .i64), .one (.int .i64)]
abbrev R5 : List RPat := [.one .bool]
abbrev I5 : List (Nat × OPat) := []
abbrev O5 : List (Nat × OPat) := []
noncomputable abbrev env5 (K : Nat) : List Entry := [⟨6, A6, I6, R6, O6, G6⟩, ⟨22, A22, I22, R22, O22, G22⟩, ⟨23, A23, I23, R23, O23, G23⟩, ⟨24, A24, I24, R24, O24, G24⟩]
theorem envOk5 (K : Nat) : EnvOk Tryz.prog (env5 K) := moreEnv con6 (moreEnv con22 (moreEnv con23 (moreEnv con24 (noEnv))))
noncomputable def b5 : Code := bodyOf Tryz.f5
noncomputable def b5_4 : Code := loopBody (codeAt b5 [0, 1, 0, 1, 1])
noncomputable abbrev ps5_4 (K : Nat) : List PEntry := []
theorem psOk5_4 (K : Nat) : PiecesOk Tryz.prog b5_4 (ps5_4 K) := noPs
abbrev s5_4 : Sh.Spec := ⟨⟨107, [(0, .one (.sl (.sl (.int .u8)))), (2, .one (.int .i64)), (3, .one (.int .i64)), (5, .ptr 5), (9, .one (.int .i64))], [(5, .box (.pr (.int .u8) (.pr (.int .u8) (.pr (.int .u8) (.pr (.int .u8) (.pr (.int .u8) (.pr (.int .u8) (.pr (.int .u8) (.int .u8)))))))))], []⟩, [], [⟨.exit 0, [], ⟨107, [(0, .one (.sl (.sl (.int .u8)))), (2, .one (.int .i64)), (3, .one (.int .i64)), (5, .ptr 5)], [(5, .box (.pr (.int .u8) (.pr (.int .u8) (.pr (.int .u8) (.pr (.int .u8) (.pr (.int .u8) (.pr (.int .u8) (.pr (.int .u8) (.int .u8)))))))))], []⟩⟩, ⟨.ret, [], ⟨107, [(8, .one .bool)], [], []⟩⟩]⟩
noncomputable def l5_4 (K : Nat) : Nat → s5_4.T.den → Option (xDen s5_4.X)
  | 0, _ => none
  | k + 1, x => shL Tryz.prog (env5 K) (ps5_4 K) b5_4 s5_4 (l5_4 K k) x
theorem c5_4 : codeAt b5 [0, 1, 0, 1, 1] = .loop b5_4 := by kernel_rfl
theorem p5_4 (K k : Nat) : ∀ C : Ctx, C.P = Tryz.prog → ∀ {R : Type}, PieceOk C (codeAt b5 [0, 1, 0, 1, 1]) (piece (R := R) s5_4 (l5_4 K k)) :=
  loop_entry c5_4 (envOk5 K) (ps := fun _ => ps5_4 K) (fun _ => psOk5_4 K) (fun _ => rfl) K (fun _ _ => rfl) k
noncomputable abbrev ps5 (K : Nat) : List PEntry := [⟨[0, 1, 0, 1, 1], s5_4, l5_4 K K⟩]
theorem psOk5 (K : Nat) : PiecesOk Tryz.prog b5 (ps5 K) := morePs (p5_4 K K) (noPs)
noncomputable abbrev cs5 (K : Nat) : List CEntry := []
theorem csOk5 (K : Nat) : CsOk Tryz.prog b5 (cs5 K) := trivial
noncomputable def F5 (K : Nat) : inDen A5 I5 → Option (outDen R5 O5) := shF Tryz.prog (env5 K) (ps5 K) (cs5 K) b5 Tryz.f5 [] A5 I5 R5 O5
theorem q5 : Tryz.f5.body = some b5 := by kernel_rfl
theorem raw5 (K : Nat) : Con Tryz.prog 5 A5 I5 R5 O5 (F5 K) := con_entry_f Tryz.func5 q5 rfl (envOk5 K) (psOk5 K) (csOk5 K) []
end Go.Proofs.YtkmbehagofjmbaaGreat
