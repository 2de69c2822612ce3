import Derived.Test.YtkmbehagofjmbaaGreatItSn
set_option maxRecDepth 100000
set_option linter.unusedVariables false
namespace Go.Proofs.YtkmbehagofjmbaaGreat
open Go Go.Sh Go.Proofs
/- forkledger/forkledgerref20.TextName -/
abbrev A22 : List Pat := [.one (.sl (.int .u8))]
abbrev R22 : List RPat := [.agg (.pr (.int .u8) (.pr (.int .u8) (.pr (.int .u8) (.pr (.int .u8) (.pr (.int .u8) (.pr (.int .u8) (.pr (.int .u8) (.int .u8))))))))]
abbrev I22 : List (Nat × OPat) := []
abbrev O22 : List (Nat × OPat) := []
noncomputable abbrev env22 (K : Nat) : List Entry := [⟨50, A50, I50, R50, O50, G50⟩]
theorem envOk22 (K : Nat) : EnvOk Tryz.prog (env22 K) := moreEnv con50 (noEnv)
noncomputable def b22 : Code := bodyOf Tryz.f22
noncomputable abbrev ps22 (K : Nat) : List PEntry := []
theorem psOk22 (K : Nat) : PiecesOk Tryz.prog b22 (ps22 K) := noPs
noncomputable abbrev cs22 (K : Nat) : List CEntry := []
theorem csOk22 (K : Nat) : CsOk Tryz.prog b22 (cs22 K) := trivial
noncomputable def F22 (K : Nat) : inDen A22 I22 → Option (outDen R22 O22) := shF Tryz.prog (env22 K) (ps22 K) (cs22 K) b22 Tryz.f22 [] A22 I22 R22 O22
theorem q22 : Tryz.f22.body = some b22 := by kernel_rfl
theorem raw22 (K : Nat) : Con Tryz.prog 22 A22 I22 R22 O22 (F22 K) := con_entry_f Tryz.func22 q22 rfl (envOk22 K) (psOk22 K) (csOk22 K) []
/- forkledger/block.Name -/
abbrev A29 : List Pat := [.one (.sl (.int .u8))]
abbrev R29 : List RPat := [.agg (.pr (.int .u8) (.pr (.int .u8) (.pr (.int .u8) (.pr (.int .u8) (.pr (.int .u8) (.pr (.int .u8) (.pr (.int .u8) (.int .u8))))))))]
abbrev I29 : List (Nat × OPat) := []
abbrev O29 : List (Nat × OPat) := []
noncomputable abbrev env29 (K : Nat) : List Entry := [⟨61, A61, I61, R61, O61, G61⟩]
theorem envOk29 (K : Nat) : EnvOk Tryz.prog (env29 K) := moreEnv con61 (noEnv)
noncomputable def b29 : Code := bodyOf Tryz.f29
noncomputable abbrev ps29 (K : Nat) : List PEntry := []
theorem psOk29 (K : Nat) : PiecesOk Tryz.prog b29 (ps29 K) := noPs
noncomputable abbrev cs29 (K : Nat) : List CEntry := []
theorem csOk29 (K : Nat) : CsOk Tryz.prog b29 (cs29 K) := trivial
noncomputable def F29 (K : Nat) : inDen A29 I29 → Option (outDen R29 O29) := shF Tryz.prog (env29 K) (ps29 K) (cs29 K) b29 Tryz.f29 [] A29 I29 R29 O29
theorem q29 : Tryz.f29.body = some b29 := by kernel_rfl
theorem raw29 (K : Nat) : Con Tryz.prog 29 A29 I29 R29 O29 (F29 K) := con_entry_f Tryz.func29 q29 rfl (envOk29 K) (psOk29 K) (csOk29 K) []
/- bytes.Compare -/
abbrev A51 : List Pat := [.one (.sl (.int .u8)), .one (.sl (.int .u8))]
abbrev R51 : List RPat := [.one (.int .i64)]
abbrev I51 : List (Nat × OPat) := []
abbrev O51 : List (Nat × OPat) := []
noncomputable abbrev env51 (K : Nat) : List Entry := []
theorem envOk51 (K : Nat) : EnvOk Tryz.prog (env51 K) := noEnv
noncomputable def b51 : Code := bodyOf Tryz.f51
noncomputable abbrev ps51 (K : Nat) : List PEntry := []
theorem psOk51 (K : Nat) : PiecesOk Tryz.prog b51 (ps51 K) := noPs
noncomputable abbrev cs51 (K : Nat) : List CEntry := []
theorem csOk51 (K : Nat) : CsOk Tryz.prog b51 (cs51 K) := trivial
noncomputable def F51 (K : Nat) : inDen A51 I51 → Option (outDen R51 O51) := shF Tryz.prog (env51 K) (ps51 K) (cs51 K) b51 Tryz.f51 [] A51 I51 R51 O51
theorem q51 : Tryz.f51.body = some b51 := by kernel_rfl
theorem raw51 (K : Nat) : Con Tryz.prog 51 A51 I51 R51 O51 (F51 K) := con_entry_f Tryz.func51 q51 rfl (envOk51 K) (psOk51 K) (csOk51 K) []
/- bytes.Clone -/
abbrev A52 : List Pat := [.one (.sl (.int .u8))]
abbrev R52 : List RPat := [.own 5 (.int .u8)]
abbrev I52 : List (Nat × OPat) := []
abbrev O52 : List (Nat × OPat) := []
noncomputable abbrev env52 (K : Nat) : List Entry := []
theorem envOk52 (K : Nat) : EnvOk Tryz.prog (env52 K) := noEnv
noncomputable def b52 : Code := bodyOf Tryz.f52
noncomputable abbrev ps52 (K : Nat) : List PEntry := []
theorem psOk52 (K : Nat) : PiecesOk Tryz.prog b52 (ps52 K) := noPs
noncomputable abbrev cs52 (K : Nat) : List CEntry := []
theorem csOk52 (K : Nat) : CsOk Tryz.prog b52 (cs52 K) := trivial
noncomputable def F52 (K : Nat) : inDen A52 I52 → Option (outDen R52 O52) := shF Tryz.prog (env52 K) (ps52 K) (cs52 K) b52 Tryz.f52 [] A52 I52 R52 O52
theorem q52 : Tryz.f52.body = some b52 := by kernel_rfl
theorem raw52 (K : Nat) : Con Tryz.prog 52 A52 I52 R52 O52 (F52 K) := con_entry_f Tryz.func52 q52 rfl (envOk52 K) (psOk52 K) (csOk52 K) []
end Go.Proofs.YtkmbehagofjmbaaGreat
