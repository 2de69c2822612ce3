import Derived.Test.YtkmbehagofjmbaaGreatLow
import Derived.RangeFuncWrites
import Derived.Maps.OwnIn
import Derived.Maps.AppendAt
namespace Go.Proofs
open Go.RowKit Go.Shelf
attribute [local go_sem] Oper.semAt_some

theorem Tryz.info3' : (Tryz.prog.info? 3).map (fun i => (i.zero, i.size, i.bytes)) = some (some (.int .i64 0), 1, 8) := by kernel_rfl

set_option maxRecDepth 100000 in
set_option maxHeartbeats 4000000 in
theorem Tryz.ids_in (m : Int) (w : World) :
    CallsIn Fence.wide 4 Tryz.prog 88 #[.int .i64 m] w fun e W' => ∃ v, e = .returned v ∧ W'.ownsRow w.heap.size 3 1 v (idl m 10).length ((idl m 10).map fun x => Value.int .i64 x.1) ∧ Below w.heap.size w W' := by
  obtain ⟨i0, hi, hz0, hz1, hz2⟩ := info_parts Tryz.info3'
  refine callsIn_of_wp_marks Tryz.func88 rfl trivial ?_ rfl
  simp only [Tryz.ntmps88, List.size_toArray, List.length_cons, List.length_nil, Nat.reduceAdd, Nat.reduceSub, Array.replicate_succ, Array.replicate_zero, List.push_toArray, List.append_toArray, List.nil_append, List.cons_append]
  have hmc := fun w => Tryz.members_calls m w
  gi_wp2_with (refine ⟨trivial, ?_⟩; gi_at_call 109; refine (callsIn_wide.2 (hmc _)).mono ?_; rintro e w' ⟨rfl, rfl⟩)
  have bO := Boxed.new w 23 (.slice none 0 0)
  have bN := Boxed.new (w.alloc (.cells #[.slice none 0 0] 23)) 30 (.int .i64 m)
  rw [World.size_alloc] at bN
  have hB0 : Below w.heap.size w ((w.alloc (.cells #[.slice none 0 0] 23)).alloc (.cells #[.int .i64 m] 30)) := ((Below.refl _ w).alloc (Nat.le_refl _) _).alloc (by simp) _
  have hsz : ((w.alloc (.cells #[.slice none 0 0] 23)).alloc (.cells #[.int .i64 m] 30)).heap.size = w.heap.size + 2 := by simp
  refine wpIn_rangeFunc_ownG rfl (by omega) (gf := 150) (lb := #[.pointer (some ⟨w.heap.size + 1, 0, none⟩)]) rfl trivial (enters_of Tryz.func150 (by kernel_rfl) rfl)
    (Tryz.members_stops Fence.wide rfl 3 (by omega) (w.heap.size + 1) m _ (by omega) bN.cell) KpB.trans (fun W l o o' h1 h2 h3 h4 => KpB.turn (w := w) W l o o' (by omega) h2 h3 h4) (Below.refl _ _) (fun _ => rfl)
    (fun pre W => ((∃ v, Boxed W w.heap.size 23 v ∧ W.ownsRow w.heap.size 3 1 v pre.length (pre.map fun x => Value.int .i64 x.1) ∧ True) ∧ Boxed W (w.heap.size + 1) 30 (.int .i64 m)) ∧ Below w.heap.size w W)
    (fun _ _ _ => False)
    (OwnFrom.and (OwnFrom.and (Own.from (holdsRow_own w.heap.size w.heap.size 23 3 1 (fun pre : List Mb => pre.length) (fun pre : List Mb => pre.map fun x : Mb => Value.int .i64 x.1) (fun (pre : List Mb) v => True)) _) (fun s A B row hs hg hr => boxed_row hs hg hr)) (ownFrom_below (Nat.le_refl _) (by omega)))
    (fun _ _ _ _ _ hs _ _ => hs)
    ⟨⟨⟨_, bO.alloc _, World.ownsRow_nil _ _ _ _, trivial⟩, bN⟩, hB0⟩
    (fun x => { tmps := #[.int .i64 m, undef, .slice none 0 0, .pointer (some ⟨w.heap.size, 0, none⟩), .int .i64 x.1, .int .i64 m, .func (.func 150) #[] #[.pointer (some ⟨w.heap.size + 1, 0, none⟩)], .int .i64 x.1, undef, undef, undef, undef, undef], defers := [] }) ?assign ?body ?done ?stop
  case assign =>
    intro l x W K hK
    gi_wp2
    exact hK
  case body =>
    rintro l pre ⟨x, hx0, hx1⟩ W ⟨⟨⟨v, hv, hrow, _⟩, hm⟩, hB⟩ hlt
    have hc := hv.cell
    gi_wp2_with (gi_at_builtin; refine wpListIn_append_own _ rfl _ _ 23 rfl w.heap.size 3 i0 (.int .i64 0) 1 8 Tryz.underlying23 hi hz0 hz1 hz2 rfl (by decide) _ _ _ rfl (hrow.alloc _) ⟨W.heap.size, 0, none⟩ 1 1 [.int .i64 x] rfl rfl (cell_one_new _ _ _) (by simp [Value.oneCell']) (by first | omega | (unfold maxLen; omega)) (by first | omega | (unfold maxLen; omega)) (by have := hB.size; simp; omega) ?_; intro v' w1 hown' hgrow _; obtain ⟨g', cap', rfl⟩ := ownsRow_succ hown'; obtain ⟨hv1, hv2, hr2, hk2, hb2⟩ := hv.appended (by decide) hrow hB.size (Nat.le_refl _) hown' hgrow; have hc1 := hv1.cell; have hf1 := hv1.frozen)
    have hm1 : Boxed w1 (w.heap.size + 1) 30 (.int .i64 m) := (hm.alloc _).kept hgrow (hm.not_row (by decide) hrow)
    have hm2 := hm1.other (B' := w.heap.size) (by omega) (.slice (some ⟨g', 0, none⟩) (pre.length + 1) cap')
    refine ⟨hk2.from _, fun u hu => ?_, ⟨⟨_, hv2, by simpa using hr2⟩, hm2⟩, hB.trans hb2⟩
    rw [hm.cell] at hu
    rw [← hu]
    exact hm2.cell
  case done =>
    rintro D ys W hD rfl ⟨⟨⟨v, hv, hrow, _⟩, hm⟩, hB⟩ hK
    have hc := hv.cell
    gi_wp2
    refine ⟨by simp, .inl ⟨_, _, rfl, run_takeDeferred hK, ?_⟩⟩
    exact ⟨_, results_tmp rfl _ _ _, v, rfl, ownsRow_putObj hrow _ hK rfl, hB.trans (belowK_b (w := w) (Nat.le_refl _) W D _ _ (by omega) hK rfl rfl)⟩
  case stop =>
    rintro D c pre W _ _ h _
    exact h.elim

theorem Tryz.ids_calls (m : Int) (w : World) :
    Calls Tryz.prog 88 #[.int .i64 m] w fun e W' => ∃ v, e = .returned v ∧ W'.ownsRow w.heap.size 3 1 v (idl m 10).length ((idl m 10).map fun x => Value.int .i64 x.1) ∧ Below w.heap.size w W' :=
  callsIn_wide.1 (Tryz.ids_in m w)

end Go.Proofs
