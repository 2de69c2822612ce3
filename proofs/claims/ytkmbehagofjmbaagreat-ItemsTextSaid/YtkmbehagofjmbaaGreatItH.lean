/-
  Contracts of the program's functions, printed by a program of ours (wip/gen/Gen2.lean) over the shadow evaluator.
-/
import Derived.Test.YtkmbehagofjmbaaGreatShTab
import Derived.Test.YtkmbehagofjmbaaGreatProg
import Derived.KernelRfl
set_option maxRecDepth 100000
set_option linter.unusedVariables false
namespace Go.Proofs.YtkmbehagofjmbaaGreat
open Go Go.Sh Go.Proofs

noncomputable def bodyOf (f : Func) : Code := f.body.getD .skip
theorem noEnv {P : Program} : EnvOk P [] := trivial
theorem moreEnv {P : Program} {f : FuncId} {a : List Pat} {ao : List (Nat × OPat)} {r : List RPat} {ro : List (Nat × OPat)} {Fn : inDen a ao → Option (outDen r ro)} {l : List Entry} (h : Con P f a ao r ro Fn) (hl : EnvOk P l) : EnvOk P (⟨f, a, ao, r, ro, Fn⟩ :: l) := ⟨h, hl⟩
theorem noPs {P : Program} {b : Code} : PiecesOk P b [] := trivial
theorem morePs {P : Program} {b : Code} {p : List Nat} {s : Sh.Spec} {f : s.T.den → Option (xDen s.X)} {l : List PEntry} (h : ∀ C : Ctx, C.P = P → ∀ {R : Type}, PieceOk C (codeAt b p) (piece (R := R) s f)) (hl : PiecesOk P b l) : PiecesOk P b (⟨p, s, f⟩ :: l) := ⟨h, hl⟩
def loopBody : Code → Code
  | .loop c => c
  | c => c


/- Loops that hand on what goes on behind them. -/
/- forkledger/forkledgerref1.word -/
abbrev A83 : List Pat := [.one (.sl (.int .u8))]
abbrev R83 : List RPat := [.one (.int .u64)]
abbrev I83 : List (Nat × OPat) := []
abbrev O83 : List (Nat × OPat) := []
noncomputable abbrev env83 (K : Nat) : List Entry := []
theorem envOk83 (K : Nat) : EnvOk Tryz.prog (env83 K) := noEnv
noncomputable def b83 : Code := bodyOf Tryz.f83
noncomputable def b83_5 : Code := loopBody (codeAt b83 [0, 1, 0, 1, 1, 1])
noncomputable abbrev ps83_5 (K : Nat) : List PEntry := []
theorem psOk83_5 (K : Nat) : PiecesOk Tryz.prog b83_5 (ps83_5 K) := noPs
abbrev s83_5 : Sh.Spec := ⟨⟨73, [(0, .one (.sl (.int .u8))), (3, .one (.int .u64)), (4, .one (.int .i64))], [], []⟩, [], [⟨.exit 0, [], ⟨73, [(3, .one (.int .u64))], [], []⟩⟩]⟩
noncomputable def l83_5 (K : Nat) : Nat → s83_5.T.den → Option (xDen s83_5.X)
  | 0, _ => none
  | k + 1, x => shL Tryz.prog (env83 K) (ps83_5 K) b83_5 s83_5 (l83_5 K k) x
theorem c83_5 : codeAt b83 [0, 1, 0, 1, 1, 1] = .loop b83_5 := by kernel_rfl
theorem p83_5 (K k : Nat) : ∀ C : Ctx, C.P = Tryz.prog → ∀ {R : Type}, PieceOk C (codeAt b83 [0, 1, 0, 1, 1, 1]) (piece (R := R) s83_5 (l83_5 K k)) :=
  loop_entry c83_5 (envOk83 K) (ps := fun _ => ps83_5 K) (fun _ => psOk83_5 K) (fun _ => rfl) K (fun _ _ => rfl) k
noncomputable abbrev ps83 (K : Nat) : List PEntry := [⟨[0, 1, 0, 1, 1, 1], s83_5, l83_5 K K⟩]
theorem psOk83 (K : Nat) : PiecesOk Tryz.prog b83 (ps83 K) := morePs (p83_5 K K) (noPs)
noncomputable abbrev cs83 (K : Nat) : List CEntry := []
theorem csOk83 (K : Nat) : CsOk Tryz.prog b83 (cs83 K) := trivial
noncomputable def F83 (K : Nat) : inDen A83 I83 → Option (outDen R83 O83) := shF Tryz.prog (env83 K) (ps83 K) (cs83 K) b83 Tryz.f83 [] A83 I83 R83 O83
theorem q83 : Tryz.f83.body = some b83 := by kernel_rfl
theorem raw83 (K : Nat) : Con Tryz.prog 83 A83 I83 R83 O83 (F83 K) := con_entry_f Tryz.func83 q83 rfl (envOk83 K) (psOk83 K) (csOk83 K) []
/- forkledger/forkledgerref1.rotl -/
abbrev A127 : List Pat := [.one (.int .u64), .one (.int .u64)]
abbrev R127 : List RPat := [.one (.int .u64)]
abbrev I127 : List (Nat × OPat) := []
abbrev O127 : List (Nat × OPat) := []
noncomputable abbrev env127 (K : Nat) : List Entry := []
theorem envOk127 (K : Nat) : EnvOk Tryz.prog (env127 K) := noEnv
noncomputable def b127 : Code := bodyOf Tryz.f127
noncomputable abbrev ps127 (K : Nat) : List PEntry := []
theorem psOk127 (K : Nat) : PiecesOk Tryz.prog b127 (ps127 K) := noPs
noncomputable abbrev cs127 (K : Nat) : List CEntry := []
theorem csOk127 (K : Nat) : CsOk Tryz.prog b127 (cs127 K) := trivial
noncomputable def F127 (K : Nat) : inDen A127 I127 → Option (outDen R127 O127) := shF Tryz.prog (env127 K) (ps127 K) (cs127 K) b127 Tryz.f127 [] A127 I127 R127 O127
theorem q127 : Tryz.f127.body = some b127 := by kernel_rfl
theorem raw127 (K : Nat) : Con Tryz.prog 127 A127 I127 R127 O127 (F127 K) := con_entry_f Tryz.func127 q127 rfl (envOk127 K) (psOk127 K) (csOk127 K) []
/- forkledger/forkledgerref1.mix -/
abbrev A84 : List Pat := [.one (.int .u64), .one (.int .u64)]
abbrev R84 : List RPat := [.one (.int .u64), .one (.int .u64)]
abbrev I84 : List (Nat × OPat) := []
abbrev O84 : List (Nat × OPat) := []
noncomputable abbrev env84 (K : Nat) : List Entry := [⟨127, A127, I127, R127, O127, F127 K⟩]
theorem envOk84 (K : Nat) : EnvOk Tryz.prog (env84 K) := moreEnv (raw127 K) (noEnv)
noncomputable def b84 : Code := bodyOf Tryz.f84
noncomputable abbrev ps84 (K : Nat) : List PEntry := []
theorem psOk84 (K : Nat) : PiecesOk Tryz.prog b84 (ps84 K) := noPs
noncomputable abbrev cs84 (K : Nat) : List CEntry := []
theorem csOk84 (K : Nat) : CsOk Tryz.prog b84 (cs84 K) := trivial
noncomputable def F84 (K : Nat) : inDen A84 I84 → Option (outDen R84 O84) := shF Tryz.prog (env84 K) (ps84 K) (cs84 K) b84 Tryz.f84 [] A84 I84 R84 O84
theorem q84 : Tryz.f84.body = some b84 := by kernel_rfl
theorem raw84 (K : Nat) : Con Tryz.prog 84 A84 I84 R84 O84 (F84 K) := con_entry_f Tryz.func84 q84 rfl (envOk84 K) (psOk84 K) (csOk84 K) []
/- forkledger/forkledgerref1.Of -/
abbrev A85 : List Pat := [.one (.int .u64)]
abbrev R85 : List RPat := [.agg (.pr (.int .u8) (.pr (.int .u8) (.pr (.int .u8) (.pr (.int .u8) (.pr (.int .u8) (.pr (.int .u8) (.pr (.int .u8) (.int .u8))))))))]
abbrev I85 : List (Nat × OPat) := []
abbrev O85 : List (Nat × OPat) := []
noncomputable abbrev env85 (K : Nat) : List Entry := []
theorem envOk85 (K : Nat) : EnvOk Tryz.prog (env85 K) := noEnv
noncomputable def b85 : Code := bodyOf Tryz.f85
noncomputable abbrev ps85 (K : Nat) : List PEntry := []
theorem psOk85 (K : Nat) : PiecesOk Tryz.prog b85 (ps85 K) := noPs
noncomputable abbrev cs85 (K : Nat) : List CEntry := []
theorem csOk85 (K : Nat) : CsOk Tryz.prog b85 (cs85 K) := trivial
noncomputable def F85 (K : Nat) : inDen A85 I85 → Option (outDen R85 O85) := shF Tryz.prog (env85 K) (ps85 K) (cs85 K) b85 Tryz.f85 [] A85 I85 R85 O85
theorem q85 : Tryz.f85.body = some b85 := by kernel_rfl
theorem raw85 (K : Nat) : Con Tryz.prog 85 A85 I85 R85 O85 (F85 K) := con_entry_f Tryz.func85 q85 rfl (envOk85 K) (psOk85 K) (csOk85 K) []
/- forkledger/hash.Number -/
abbrev A77 : List Pat := [.agg (.pr (.int .u8) (.pr (.int .u8) (.pr (.int .u8) (.pr (.int .u8) (.pr (.int .u8) (.pr (.int .u8) (.pr (.int .u8) (.int .u8))))))))]
abbrev R77 : List RPat := [.one (.int .u64)]
abbrev I77 : List (Nat × OPat) := []
abbrev O77 : List (Nat × OPat) := []
noncomputable abbrev env77 (K : Nat) : List Entry := []
theorem envOk77 (K : Nat) : EnvOk Tryz.prog (env77 K) := noEnv
noncomputable def b77 : Code := bodyOf Tryz.f77
noncomputable def b77_3 : Code := loopBody (codeAt b77 [0, 1, 0, 1, 1])
noncomputable abbrev ps77_3 (K : Nat) : List PEntry := []
theorem psOk77_3 (K : Nat) : PiecesOk Tryz.prog b77_3 (ps77_3 K) := noPs
theorem c77_3 : codeAt b77 [0, 1, 0, 1, 1] = .loop b77_3 := by kernel_rfl
noncomputable abbrev ps77 (K : Nat) : List PEntry := []
theorem psOk77 (K : Nat) : PiecesOk Tryz.prog b77 (ps77 K) := noPs
noncomputable abbrev cs77 (K : Nat) : List CEntry := [⟨[0, 1, 0, 1, 1], env77 K, ps77_3 K, b77_3, none, [], 26⟩]
theorem csOk77 (K : Nat) : CsOk Tryz.prog b77 (cs77 K) := ⟨⟨c77_3, envOk77 K, psOk77_3 K⟩, trivial⟩
noncomputable def F77 (K : Nat) : inDen A77 I77 → Option (outDen R77 O77) := shF Tryz.prog (env77 K) (ps77 K) (cs77 K) b77 Tryz.f77 [] A77 I77 R77 O77
theorem q77 : Tryz.f77.body = some b77 := by kernel_rfl
theorem raw77 (K : Nat) : Con Tryz.prog 77 A77 I77 R77 O77 (F77 K) := con_entry_f Tryz.func77 q77 rfl (envOk77 K) (psOk77 K) (csOk77 K) []
/- forkledger/hash.word -/
abbrev A106 : List Pat := [.one (.sl (.int .u8))]
abbrev R106 : List RPat := [.one (.int .u64)]
abbrev I106 : List (Nat × OPat) := []
abbrev O106 : List (Nat × OPat) := []
noncomputable abbrev env106 (K : Nat) : List Entry := [⟨77, A77, I77, R77, O77, F77 K⟩]
theorem envOk106 (K : Nat) : EnvOk Tryz.prog (env106 K) := moreEnv (raw77 K) (noEnv)
noncomputable def b106 : Code := bodyOf Tryz.f106
noncomputable abbrev ps106 (K : Nat) : List PEntry := []
theorem psOk106 (K : Nat) : PiecesOk Tryz.prog b106 (ps106 K) := noPs
noncomputable abbrev cs106 (K : Nat) : List CEntry := []
theorem csOk106 (K : Nat) : CsOk Tryz.prog b106 (cs106 K) := trivial
noncomputable def F106 (K : Nat) : inDen A106 I106 → Option (outDen R106 O106) := shF Tryz.prog (env106 K) (ps106 K) (cs106 K) b106 Tryz.f106 [] A106 I106 R106 O106
theorem q106 : Tryz.f106.body = some b106 := by kernel_rfl
theorem raw106 (K : Nat) : Con Tryz.prog 106 A106 I106 R106 O106 (F106 K) := con_entry_f Tryz.func106 q106 rfl (envOk106 K) (psOk106 K) (csOk106 K) []
/- math/bits.RotateLeft64 -/
abbrev A149 : List Pat := [.one (.int .u64), .one (.int .i64)]
abbrev R149 : List RPat := [.one (.int .u64)]
abbrev I149 : List (Nat × OPat) := []
abbrev O149 : List (Nat × OPat) := []
noncomputable abbrev env149 (K : Nat) : List Entry := []
theorem envOk149 (K : Nat) : EnvOk Tryz.prog (env149 K) := noEnv
noncomputable def b149 : Code := bodyOf Tryz.f149
noncomputable abbrev ps149 (K : Nat) : List PEntry := []
theorem psOk149 (K : Nat) : PiecesOk Tryz.prog b149 (ps149 K) := noPs
noncomputable abbrev cs149 (K : Nat) : List CEntry := []
theorem csOk149 (K : Nat) : CsOk Tryz.prog b149 (cs149 K) := trivial
noncomputable def F149 (K : Nat) : inDen A149 I149 → Option (outDen R149 O149) := shF Tryz.prog (env149 K) (ps149 K) (cs149 K) b149 Tryz.f149 [] A149 I149 R149 O149
theorem q149 : Tryz.f149.body = some b149 := by kernel_rfl
theorem raw149 (K : Nat) : Con Tryz.prog 149 A149 I149 R149 O149 (F149 K) := con_entry_f Tryz.func149 q149 rfl (envOk149 K) (psOk149 K) (csOk149 K) []
/- (*forkledger/hash.state).mix -/
abbrev A107 : List Pat := [.ptr 1, .one (.int .i64)]
abbrev R107 : List RPat := []
abbrev I107 : List (Nat × OPat) := [(1, .box (.pr (.int .u64) (.int .u64)))]
abbrev O107 : List (Nat × OPat) := [(1, .box (.pr (.int .u64) (.int .u64)))]
noncomputable abbrev env107 (K : Nat) : List Entry := [⟨149, A149, I149, R149, O149, F149 K⟩]
theorem envOk107 (K : Nat) : EnvOk Tryz.prog (env107 K) := moreEnv (raw149 K) (noEnv)
noncomputable def b107 : Code := bodyOf Tryz.f107
noncomputable def b107_1 : Code := loopBody (codeAt b107 [0, 1])
noncomputable abbrev ps107_1 (K : Nat) : List PEntry := []
theorem psOk107_1 (K : Nat) : PiecesOk Tryz.prog b107_1 (ps107_1 K) := noPs
abbrev s107_1 : Sh.Spec := ⟨⟨41, [(0, .ptr 1), (4, .one (.int .i64)), (5, .one (.int .i64))], [(1, .box (.pr (.int .u64) (.int .u64)))], [1]⟩, [], [⟨.exit 0, [], ⟨41, [], [(1, .box (.pr (.int .u64) (.int .u64)))], [1]⟩⟩]⟩
noncomputable def l107_1 (K : Nat) : Nat → s107_1.T.den → Option (xDen s107_1.X)
  | 0, _ => none
  | k + 1, x => shL Tryz.prog (env107 K) (ps107_1 K) b107_1 s107_1 (l107_1 K k) x
theorem c107_1 : codeAt b107 [0, 1] = .loop b107_1 := by kernel_rfl
theorem p107_1 (K k : Nat) : ∀ C : Ctx, C.P = Tryz.prog → ∀ {R : Type}, PieceOk C (codeAt b107 [0, 1]) (piece (R := R) s107_1 (l107_1 K k)) :=
  loop_entry c107_1 (envOk107 K) (ps := fun _ => ps107_1 K) (fun _ => psOk107_1 K) (fun _ => rfl) K (fun _ _ => rfl) k
noncomputable abbrev ps107 (K : Nat) : List PEntry := [⟨[0, 1], s107_1, l107_1 K K⟩]
theorem psOk107 (K : Nat) : PiecesOk Tryz.prog b107 (ps107 K) := morePs (p107_1 K K) (noPs)
noncomputable abbrev cs107 (K : Nat) : List CEntry := []
theorem csOk107 (K : Nat) : CsOk Tryz.prog b107 (cs107 K) := trivial
noncomputable def F107 (K : Nat) : inDen A107 I107 → Option (outDen R107 O107) := shF Tryz.prog (env107 K) (ps107 K) (cs107 K) b107 Tryz.f107 [] A107 I107 R107 O107
theorem q107 : Tryz.f107.body = some b107 := by kernel_rfl
theorem raw107 (K : Nat) : Con Tryz.prog 107 A107 I107 R107 O107 (F107 K) := con_entry_f Tryz.func107 q107 rfl (envOk107 K) (psOk107 K) (csOk107 K) []
/- forkledger/hash.Of -/
abbrev A108 : List Pat := [.one (.int .u64)]
abbrev R108 : List RPat := [.agg (.pr (.int .u8) (.pr (.int .u8) (.pr (.int .u8) (.pr (.int .u8) (.pr (.int .u8) (.pr (.int .u8) (.pr (.int .u8) (.int .u8))))))))]
abbrev I108 : List (Nat × OPat) := []
abbrev O108 : List (Nat × OPat) := []
noncomputable abbrev env108 (K : Nat) : List Entry := []
theorem envOk108 (K : Nat) : EnvOk Tryz.prog (env108 K) := noEnv
noncomputable def b108 : Code := bodyOf Tryz.f108
noncomputable abbrev ps108 (K : Nat) : List PEntry := []
theorem psOk108 (K : Nat) : PiecesOk Tryz.prog b108 (ps108 K) := noPs
noncomputable abbrev cs108 (K : Nat) : List CEntry := []
theorem csOk108 (K : Nat) : CsOk Tryz.prog b108 (cs108 K) := trivial
noncomputable def F108 (K : Nat) : inDen A108 I108 → Option (outDen R108 O108) := shF Tryz.prog (env108 K) (ps108 K) (cs108 K) b108 Tryz.f108 [] A108 I108 R108 O108
theorem q108 : Tryz.f108.body = some b108 := by kernel_rfl
theorem raw108 (K : Nat) : Con Tryz.prog 108 A108 I108 R108 O108 (F108 K) := con_entry_f Tryz.func108 q108 rfl (envOk108 K) (psOk108 K) (csOk108 K) []
end Go.Proofs.YtkmbehagofjmbaaGreat
