import Derived.Test.YtkmbehagofjmbaaGreatCmt
import Derived.RangeFuncBox
namespace Go.Proofs
open Go.RowKit Go.Shelf
attribute [local go_sem] Oper.semAt_some

def orBit (v x : Int) : Int := bits BinOp.or IntKind.i64 v (wrap64 (2 ^ x.toNat))

def lowGo (k v : Int) : List Mb → Int
  | [] => v
  | x :: r => if k < 1 then v else lowGo (wrap64 (k - 1)) (orBit v x.1) r

theorem boxed_row {W W' : World} {B b : Nat} {t : TypeId} {v : Value} {row : Option Nat} (h : Boxed W b t v) (hg : W.grownBy W' row) (hr : ∀ r, row = some r → B ≤ r ∧ ∃ o : Obj, W.heap[r]? = some o ∧ o.isCells = false) : Boxed W' b t v :=
  h.kept hg fun e => by
    obtain ⟨_, o, ho, hc⟩ := hr _ e.symm
    rw [show W.heap[b]? = _ from h] at ho
    cases ho
    cases hc

theorem KpB.of_grown {B : Nat} {W W' : World} {row : Option Nat} {t : TypeId} {v : Value} (hB : Boxed W B t v) (hg : W.grownBy W' row) (hne : some B ≠ row) : KpB B W W' := fun u hu => by
  have := hB.kept hg hne
  rw [this.cell, ← hu, hB.cell]

theorem Tryz.members_calls (m : Int) (w : World) : Calls Tryz.prog 109 #[.int .i64 m] w fun e w' => e = .returned (.func (.func 150) #[] #[.pointer (some ⟨w.heap.size, 0, none⟩)]) ∧ w' = w.alloc (.cells #[.int .i64 m] 30) := by
  go_enter Tryz.func109, Tryz.ntmps109
  go_wp2
  refine bodyPost_ret (results_tmp rfl _ _ _) rfl ?_
  exact ⟨rfl, rfl⟩

set_option maxRecDepth 100000 in
set_option maxHeartbeats 4000000 in
theorem Tryz.lowest_in (m k : Int) (w : World) :
    CallsIn Fence.wide 4 Tryz.prog 62 #[.int .i64 m, .int .i64 k] w fun e W' => e = .returned (.int .i64 (lowGo k 0 (idl m 10))) ∧ Below w.heap.size w W' := by
  refine callsIn_of_wp_marks Tryz.func62 rfl trivial ?_ rfl
  simp only [Tryz.ntmps62, List.size_toArray, List.length_cons, List.length_nil, Nat.reduceAdd, Nat.reduceSub, Array.replicate_succ, Array.replicate_zero, List.push_toArray, List.append_toArray, List.nil_append, List.cons_append]
  have hmc := fun w => Tryz.members_calls m w
  gi_wp2_with (refine ⟨trivial, ?_⟩; gi_at_call 109; refine (callsIn_wide.2 (hmc _)).mono ?_; rintro e w' ⟨rfl, rfl⟩)
  have b0 := ((Boxed.new w 3 (.int .i64 k)).alloc (.cells #[.int .i64 0] 30)).alloc (.cells #[.int .i64 m] 30)
  have b1 := (Boxed.new (w.alloc (.cells #[.int .i64 k] 3)) 30 (.int .i64 0)).alloc (.cells #[.int .i64 m] 30)
  have b2 := Boxed.new ((w.alloc (.cells #[.int .i64 k] 3)).alloc (.cells #[.int .i64 0] 30)) 30 (.int .i64 m)
  simp only [World.size_alloc] at b1 b2
  have hB0 : Below w.heap.size w (((w.alloc (.cells #[.int .i64 k] 3)).alloc (.cells #[.int .i64 0] 30)).alloc (.cells #[.int .i64 m] 30)) := (((Below.refl _ w).alloc (Nat.le_refl _) _).alloc (by simp) _).alloc (by simp; omega) _
  have hsz : (((w.alloc (.cells #[.int .i64 k] 3)).alloc (.cells #[.int .i64 0] 30)).alloc (.cells #[.int .i64 m] 30)).heap.size = w.heap.size + 3 := by simp
  refine wpIn_rangeFunc_ownF rfl (by omega) (gf := 150) (lb := #[.pointer (some ⟨w.heap.size + 1 + 1, 0, none⟩)]) rfl trivial (enters_of Tryz.func150 (by kernel_rfl) rfl)
    (Tryz.members_stops Fence.wide rfl 3 (by omega) (w.heap.size + 1 + 1) m _ (by omega) b2.cell) KpB.trans (fun W l o o' h1 h2 h3 h4 => KpB.turn (w := w) W l o o' (by omega) h2 h3 h4) (Below.refl _ _) (fun _ => rfl)
    (fun pre W => ((∃ k' v : Int, Boxed W w.heap.size 3 (.int .i64 k') ∧ Boxed W (w.heap.size + 1) 30 (.int .i64 v) ∧ ∀ rest, lowGo k 0 (pre ++ rest) = lowGo k' v rest) ∧ Boxed W (w.heap.size + 1 + 1) 30 (.int .i64 m)) ∧ Below w.heap.size w W)
    (fun c pre W => (c = .exit 0 ∧ ∃ v : Int, Boxed W (w.heap.size + 1) 30 (.int .i64 v) ∧ ∀ rest, lowGo k 0 (pre ++ rest) = v) ∧ Below w.heap.size w W)
    (OwnFrom.and (fun s A B row hs hg hr => by obtain ⟨⟨k', v, h1, h2, h3⟩, h4⟩ := hs; exact ⟨⟨k', v, boxed_row h1 hg hr, boxed_row h2 hg hr, h3⟩, boxed_row h4 hg hr⟩) (ownFrom_below (Nat.le_refl _) (by omega)))
    (fun c => OwnFrom.and (fun s A B row hs hg hr => by obtain ⟨h0, v, h1, h2⟩ := hs; exact ⟨h0, v, boxed_row h1 hg hr, h2⟩) (ownFrom_below (Nat.le_refl _) (by omega)))
    ⟨⟨⟨k, 0, b0, b1, fun _ => rfl⟩, b2⟩, hB0⟩
    (fun x => { tmps := #[.int .i64 m, .int .i64 k, undef, .pointer (some ⟨w.heap.size, 0, none⟩), .int .i64 0, .pointer (some ⟨w.heap.size + 1, 0, none⟩), .int .i64 x.1, .int .i64 m, .func (.func 150) #[] #[.pointer (some ⟨w.heap.size + 1 + 1, 0, none⟩)], .int .i64 x.1, undef, undef, undef, undef, undef, undef, undef, undef, undef], defers := [] }) ?assign ?body ?done ?stop
  case assign =>
    intro l x W K hK
    gi_wp2
    exact hK
  case body =>
    rintro l pre ⟨x, hx0, hx1⟩ W ⟨⟨⟨k', v, h1, h2, h3⟩, h4⟩, hB⟩ _
    have c1 := h1.cell
    have f1 := h1.frozen
    have c2 := h2.cell
    have f2 := h2.frozen
    gi_wp2
    · exact ⟨KeepsOthers.refl _, ⟨rfl, v, h2, fun rest => by rw [List.append_assoc, h3]; simp [lowGo, *]⟩, hB⟩
    · have hmx : Tryz.prog.follows .mixedOrders = true := by kernel_rfl
      gi_region_o
      all_goals gi_wp2
      all_goals (try go_bits)
      all_goals
        have d2 := h2.set (.int .i64 (bits BinOp.or IntKind.i64 v (wrap64 (2 ^ x.toNat))))
        have d2 := d2.other (B' := w.heap.size) (by omega) (.int .i64 (wrap64 (k' - 1)))
        have d1 := (h1.other (B' := w.heap.size + 1) (by omega) (.int .i64 (bits BinOp.or IntKind.i64 v (wrap64 (2 ^ x.toNat))))).set (.int .i64 (wrap64 (k' - 1)))
        have d4 := (h4.other (B' := w.heap.size + 1) (by omega) (.int .i64 (bits BinOp.or IntKind.i64 v (wrap64 (2 ^ x.toNat))))).other (B' := w.heap.size) (by omega) (.int .i64 (wrap64 (k' - 1)))
        have hB' := ((hB.setCell (p := ⟨w.heap.size + 1, 0, none⟩) (by simp) (.int .i64 (bits BinOp.or IntKind.i64 v (wrap64 (2 ^ x.toNat))))).setCell (p := ⟨w.heap.size, 0, none⟩) (Nat.le_refl _) (.int .i64 (wrap64 (k' - 1)))).drew
        refine ⟨((KeepsOthers.setCell _ _ _).trans (KeepsOthers.setCell _ _ _)).trans (KeepsOthers.drew _), fun u hu => ?_, ⟨⟨⟨_, _, d1, d2, fun rest => ?_⟩, d4⟩, hB'⟩⟩
        · rw [h4.cell] at hu
          rw [← hu]
          exact d4.cell
        · rw [List.append_assoc, h3]
          simp only [List.cons_append, List.nil_append, lowGo]
          rw [if_neg (by omega)]
          rfl
  case done =>
    rintro D ys W hD rfl ⟨⟨⟨k', v, h1, h2, h3⟩, h4⟩, hB⟩ hK
    have c2 := h2.cell
    gi_wp2
    refine ⟨by simp, .inl ⟨_, _, rfl, run_takeDeferred hK, ?_⟩⟩
    refine ⟨_, results_tmp rfl _ _ _, ?_, hB.trans (belowK_b (w := w) (Nat.le_refl _) W D _ _ (by omega) hK rfl rfl)⟩
    have := h3 []
    rw [List.append_nil] at this
    rw [this]
    rfl
  case stop =>
    rintro D c pre W hD hpre ⟨⟨rfl, v, h1, h2⟩, hB⟩ hK
    have c2 := h1.cell
    gi_wp2
    refine ⟨by simp, .inl ⟨_, _, rfl, run_takeDeferred hK, ?_⟩⟩
    refine ⟨_, results_tmp rfl _ _ _, ?_, hB.trans (belowK_b (w := w) (Nat.le_refl _) W D _ _ (by omega) hK rfl rfl)⟩
    obtain ⟨r, hr⟩ := hpre
    rw [← hr, h2 r]
    rfl

theorem Tryz.lowest_calls (m k : Int) (w : World) :
    Calls Tryz.prog 62 #[.int .i64 m, .int .i64 k] w fun e W' => e = .returned (.int .i64 (lowGo k 0 (idl m 10))) ∧ Below w.heap.size w W' :=
  callsIn_wide.1 (Tryz.lowest_in m k w)

end Go.Proofs
