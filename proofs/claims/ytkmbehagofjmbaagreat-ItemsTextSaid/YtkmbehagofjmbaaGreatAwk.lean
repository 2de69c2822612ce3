import Derived.Test.YtkmbehagofjmbaaGreatTny
import Derived.Test.YtkmbehagofjmbaaGreatCmtC
import Derived.Test.YtkmbehagofjmbaaGreatItSn
import Derived.KernelRfl
namespace Go.Proofs.YtkmbehagofjmbaaGreat
open Go.Sh

def awPol : Sh.Pol := ⟨fun f => memN f [38, 40, 74, 82, 102, 103, 115, 217, 221, 258, 261, 313], fun f => memN f [99, 110], fun f => memN f [6, 91]⟩
def awStat : Sh.Stat := ⟨[⟨62, [.one (.int .i64), .one (.int .i64)], [], [.one (.int .i64)], [], fun (x : Int × Int × Unit) => some ((lowGo x.2.1 0 (idl x.1 10), ()) : Int × Unit)⟩,
  ⟨88, [.one (.int .i64)], [], [.own 3 (.int .i64)], [], fun (x : Int × Unit) => some (((idl x.1 10).map (·.1), ()) : List Int × Unit)⟩,
  ⟨61, A61, I61, R61, O61, Gsum⟩],
  [⟨168, fun d xs lk κ => tinySort [58, 196] d xs lk κ⟩]⟩

theorem awStat_ok : StatOk Tryz.prog awStat := ⟨⟨con_lowest, con_ids, con61, trivial⟩, sort_raw⟩

def isTrue' (q : Option DOut) : Bool :=
  match q with
  | some ⟨[.one .bool], [], y⟩ => y.1
  | _ => false

theorem isTrue'_ok {q : Option DOut} (h : isTrue' q = true) : q = some ⟨[.one .bool], [], ((true, ()) : Bool × Unit)⟩ := by
  unfold isTrue' at h
  split at h
  · rename_i y
    obtain ⟨a, b⟩ := y
    have h : a = true := h
    subst h
    rfl
  · cases h

theorem awake_runs : isTrue' (dynRun Tryz.prog awPol awStat 40 6 [] [] ()) = true := by kernel_rfl

/-- awake() is true, wherever it is called. -/
theorem con_awake : Con Tryz.prog 6 [] [] [.one .bool] [] (fun _ => some ((true, ()) : Bool × Unit)) := closed_call awStat_ok (isTrue'_ok awake_runs)
#print axioms con_awake
end Go.Proofs.YtkmbehagofjmbaaGreat
