import Derived.Test.YtkmbehagofjmbaaGreatItHb
set_option maxRecDepth 100000
set_option linter.unusedVariables false
namespace Go.Proofs.YtkmbehagofjmbaaGreat
open Go Go.Sh Go.Proofs
/- forkledger/forkledgerref1.Sum -/
abbrev A50 : List Pat := [.one (.sl (.int .u8))]
abbrev R50 : List RPat := [.agg (.pr (.int .u8) (.pr (.int .u8) (.pr (.int .u8) (.pr (.int .u8) (.pr (.int .u8) (.pr (.int .u8) (.pr (.int .u8) (.int .u8))))))))]
abbrev I50 : List (Nat × OPat) := []
abbrev O50 : List (Nat × OPat) := []
noncomputable abbrev env50 (K : Nat) : List Entry := [⟨83, A83, I83, R83, O83, G83⟩, ⟨84, A84, I84, R84, O84, G84⟩, ⟨85, A85, I85, R85, O85, G85⟩]
theorem envOk50 (K : Nat) : EnvOk Tryz.prog (env50 K) := moreEnv con83 (moreEnv con84 (moreEnv con85 (noEnv)))
noncomputable def b50 : Code := bodyOf Tryz.f50
noncomputable def b50_3 : Code := loopBody (codeAt b50 [0, 1, 0, 1, 1])
noncomputable abbrev ps50_3 (K : Nat) : List PEntry := []
theorem psOk50_3 (K : Nat) : PiecesOk Tryz.prog b50_3 (ps50_3 K) := noPs
abbrev s50_3 : Sh.Spec := ⟨⟨50, [(0, .one (.sl (.int .u8))), (2, .ptr 2), (3, .one (.int .u64)), (4, .one (.int .u64)), (5, .one (.int .i64))], [(2, .box (.pr (.int .u8) (.pr (.int .u8) (.pr (.int .u8) (.pr (.int .u8) (.pr (.int .u8) (.pr (.int .u8) (.pr (.int .u8) (.int .u8)))))))))], []⟩, [], [⟨.exit 0, [], ⟨50, [(0, .one (.sl (.int .u8))), (2, .ptr 2), (3, .one (.int .u64)), (4, .one (.int .u64))], [(2, .box (.pr (.int .u8) (.pr (.int .u8) (.pr (.int .u8) (.pr (.int .u8) (.pr (.int .u8) (.pr (.int .u8) (.pr (.int .u8) (.int .u8)))))))))], []⟩⟩]⟩
noncomputable def l50_3 (K : Nat) : Nat → s50_3.T.den → Option (xDen s50_3.X)
  | 0, _ => none
  | k + 1, x => shL Tryz.prog (env50 K) (ps50_3 K) b50_3 s50_3 (l50_3 K k) x
theorem c50_3 : codeAt b50 [0, 1, 0, 1, 1] = .loop b50_3 := by kernel_rfl
theorem p50_3 (K k : Nat) : ∀ C : Ctx, C.P = Tryz.prog → ∀ {R : Type}, PieceOk C (codeAt b50 [0, 1, 0, 1, 1]) (piece (R := R) s50_3 (l50_3 K k)) :=
  loop_entry c50_3 (envOk50 K) (ps := fun _ => ps50_3 K) (fun _ => psOk50_3 K) (fun _ => rfl) K (fun _ _ => rfl) k
noncomputable def b50_10 : Code := loopBody (codeAt b50 [0, 1, 0, 1, 1, 1, 1])
noncomputable abbrev ps50_10 (K : Nat) : List PEntry := []
theorem psOk50_10 (K : Nat) : PiecesOk Tryz.prog b50_10 (ps50_10 K) := noPs
abbrev s50_10 : Sh.Spec := ⟨⟨50, [(2, .ptr 2), (3, .one (.int .u64)), (4, .one (.int .u64)), (6, .one (.int .i64))], [(2, .box (.pr (.int .u8) (.pr (.int .u8) (.pr (.int .u8) (.pr (.int .u8) (.pr (.int .u8) (.pr (.int .u8) (.pr (.int .u8) (.int .u8)))))))))], []⟩, [], [⟨.exit 2, [], ⟨50, [(2, .ptr 2), (3, .one (.int .u64)), (4, .one (.int .u64))], [(2, .box (.pr (.int .u8) (.pr (.int .u8) (.pr (.int .u8) (.pr (.int .u8) (.pr (.int .u8) (.pr (.int .u8) (.pr (.int .u8) (.int .u8)))))))))], []⟩⟩]⟩
noncomputable def l50_10 (K : Nat) : Nat → s50_10.T.den → Option (xDen s50_10.X)
  | 0, _ => none
  | k + 1, x => shL Tryz.prog (env50 K) (ps50_10 K) b50_10 s50_10 (l50_10 K k) x
theorem c50_10 : codeAt b50 [0, 1, 0, 1, 1, 1, 1] = .loop b50_10 := by kernel_rfl
theorem p50_10 (K k : Nat) : ∀ C : Ctx, C.P = Tryz.prog → ∀ {R : Type}, PieceOk C (codeAt b50 [0, 1, 0, 1, 1, 1, 1]) (piece (R := R) s50_10 (l50_10 K k)) :=
  loop_entry c50_10 (envOk50 K) (ps := fun _ => ps50_10 K) (fun _ => psOk50_10 K) (fun _ => rfl) K (fun _ _ => rfl) k
noncomputable abbrev ps50 (K : Nat) : List PEntry := [⟨[0, 1, 0, 1, 1], s50_3, l50_3 K K⟩, ⟨[0, 1, 0, 1, 1, 1, 1], s50_10, l50_10 K K⟩]
theorem psOk50 (K : Nat) : PiecesOk Tryz.prog b50 (ps50 K) := morePs (p50_3 K K) (morePs (p50_10 K K) (noPs))
noncomputable abbrev cs50 (K : Nat) : List CEntry := []
theorem csOk50 (K : Nat) : CsOk Tryz.prog b50 (cs50 K) := trivial
noncomputable def F50 (K : Nat) : inDen A50 I50 → Option (outDen R50 O50) := shF Tryz.prog (env50 K) (ps50 K) (cs50 K) b50 Tryz.f50 [] A50 I50 R50 O50
theorem q50 : Tryz.f50.body = some b50 := by kernel_rfl
theorem raw50 (K : Nat) : Con Tryz.prog 50 A50 I50 R50 O50 (F50 K) := con_entry_f Tryz.func50 q50 rfl (envOk50 K) (psOk50 K) (csOk50 K) []
/- forkledger/hash.Sum -/
abbrev A61 : List Pat := [.one (.sl (.int .u8))]
abbrev R61 : List RPat := [.agg (.pr (.int .u8) (.pr (.int .u8) (.pr (.int .u8) (.pr (.int .u8) (.pr (.int .u8) (.pr (.int .u8) (.pr (.int .u8) (.int .u8))))))))]
abbrev I61 : List (Nat × OPat) := []
abbrev O61 : List (Nat × OPat) := []
noncomputable abbrev env61 (K : Nat) : List Entry := [⟨106, A106, I106, R106, O106, G106⟩, ⟨107, A107, I107, R107, O107, G107⟩, ⟨108, A108, I108, R108, O108, G108⟩]
theorem envOk61 (K : Nat) : EnvOk Tryz.prog (env61 K) := moreEnv con106 (moreEnv con107 (moreEnv con108 (noEnv)))
noncomputable def b61 : Code := bodyOf Tryz.f61
noncomputable def b61_3 : Code := loopBody (codeAt b61 [0, 1, 0, 1, 1])
noncomputable abbrev ps61_3 (K : Nat) : List PEntry := []
theorem psOk61_3 (K : Nat) : PiecesOk Tryz.prog b61_3 (ps61_3 K) := noPs
abbrev s61_3 : Sh.Spec := ⟨⟨35, [(0, .one (.sl (.int .u8))), (2, .ptr 2), (3, .ptr 3), (4, .one (.int .i64))], [(3, .box (.pr (.int .u64) (.int .u64))), (2, .box (.pr (.int .u8) (.pr (.int .u8) (.pr (.int .u8) (.pr (.int .u8) (.pr (.int .u8) (.pr (.int .u8) (.pr (.int .u8) (.int .u8)))))))))], []⟩, [], [⟨.exit 0, [], ⟨35, [(0, .one (.sl (.int .u8))), (2, .ptr 2), (3, .ptr 3)], [(3, .box (.pr (.int .u64) (.int .u64))), (2, .box (.pr (.int .u8) (.pr (.int .u8) (.pr (.int .u8) (.pr (.int .u8) (.pr (.int .u8) (.pr (.int .u8) (.pr (.int .u8) (.int .u8)))))))))], []⟩⟩]⟩
noncomputable def l61_3 (K : Nat) : Nat → s61_3.T.den → Option (xDen s61_3.X)
  | 0, _ => none
  | k + 1, x => shL Tryz.prog (env61 K) (ps61_3 K) b61_3 s61_3 (l61_3 K k) x
theorem c61_3 : codeAt b61 [0, 1, 0, 1, 1] = .loop b61_3 := by kernel_rfl
theorem p61_3 (K k : Nat) : ∀ C : Ctx, C.P = Tryz.prog → ∀ {R : Type}, PieceOk C (codeAt b61 [0, 1, 0, 1, 1]) (piece (R := R) s61_3 (l61_3 K k)) :=
  loop_entry c61_3 (envOk61 K) (ps := fun _ => ps61_3 K) (fun _ => psOk61_3 K) (fun _ => rfl) K (fun _ _ => rfl) k
noncomputable abbrev ps61 (K : Nat) : List PEntry := [⟨[0, 1, 0, 1, 1], s61_3, l61_3 K K⟩]
theorem psOk61 (K : Nat) : PiecesOk Tryz.prog b61 (ps61 K) := morePs (p61_3 K K) (noPs)
noncomputable abbrev cs61 (K : Nat) : List CEntry := []
theorem csOk61 (K : Nat) : CsOk Tryz.prog b61 (cs61 K) := trivial
noncomputable def F61 (K : Nat) : inDen A61 I61 → Option (outDen R61 O61) := shF Tryz.prog (env61 K) (ps61 K) (cs61 K) b61 Tryz.f61 [] A61 I61 R61 O61
theorem q61 : Tryz.f61.body = some b61 := by kernel_rfl
theorem raw61 (K : Nat) : Con Tryz.prog 61 A61 I61 R61 O61 (F61 K) := con_entry_f Tryz.func61 q61 rfl (envOk61 K) (psOk61 K) (csOk61 K) []
end Go.Proofs.YtkmbehagofjmbaaGreat
