import Derived.RangeFuncFrom
import Derived.RangeFuncNested
import Derived.RangeFuncBound
import Derived.RangeFuncCalls
import Derived.RangeFuncLeaves
import Derived.Shelf.Abstract
import Derived.Shelf.RegionOpen
import Derived.WalkKit
import Derived.OwnWalkIn
import Derived.TacticsInMore
import Derived.LoopNIn
import Derived.LoopIn
import Derived.Maps.AppendAt
import Derived.Test.YtkmbehagofjmbaaGreatProg
import Derived.KernelRfl
namespace Go.Proofs
open Go.RowKit Go.Shelf
attribute [local go_sem] Oper.semAt_some

/-- Is i in the set m? -/
def hasBit (m i : Int) : Bool := bits BinOp.and IntKind.i64 (m / 2 ^ i.toNat) 1 == 1

/-- A validator's number. -/
abbrev Mb := { x : Int // 0 ≤ x ∧ x < 10 }

def mbAt (m : Int) (j : Nat) : Option Mb := if h : j < 10 then (if hasBit m j then some ⟨(j : Int), by omega, by omega⟩ else none) else none

/-- The members of m below k. -/
def idl (m : Int) (k : Nat) : List Mb := (List.range k).filterMap (mbAt m)

theorem idl_succ (m : Int) (k : Nat) : idl m (k + 1) = idl m k ++ (mbAt m k).toList := by
  unfold idl
  rw [List.range_succ, List.filterMap_append]
  cases h : mbAt m k <;> simp [h]

theorem idl_len (m : Int) (k : Nat) : (idl m k).length ≤ k := by
  unfold idl
  exact Nat.le_trans (List.length_filterMap_le _ _) (by simp)

theorem idl_pre (m : Int) {k n : Nat} (h : k ≤ n) : idl m k <+: idl m n := by
  induction n with
  | zero => obtain rfl : k = 0 := by omega
            exact List.prefix_refl _
  | succ n ih =>
    by_cases e : k = n + 1
    · subst e; exact List.prefix_refl _
    · refine (ih (by omega)).trans ?_
      rw [idl_succ]
      exact List.prefix_append _ _

theorem idl_yes {m : Int} {k : Nat} (hk : k < 10) (hb : hasBit m k = true) : idl m (k + 1) = idl m k ++ [⟨(k : Int), by omega, by omega⟩] := by
  rw [idl_succ, mbAt, dif_pos hk, if_pos hb]; rfl
theorem idl_no {m : Int} {k : Nat} (hk : k < 10) (hb : hasBit m k = false) : idl m (k + 1) = idl m k := by
  rw [idl_succ, mbAt, dif_pos hk, if_neg (by rw [hb]; simp)]; simp

set_option maxHeartbeats 1000000 in
theorem Tryz.has_in (m i : Int) (h0 : 0 ≤ i) (h1 : i < 10) (w : World) :
    Calls Tryz.prog 151 #[.int .i64 m, .int .i64 i] w fun e w' => e = .returned (.bool (hasBit m i)) ∧ w' = w := by
  go_enter Tryz.func151, Tryz.ntmps151
  go_wp2
  refine bodyPost_ret (results_tmp rfl _ _ _) rfl ?_
  exact ⟨rfl, rfl⟩

/-- What a round keeps: the captured set. -/
def KpB (B : Nat) (W W' : World) : Prop := ∀ v, W.cell? ⟨B, 0, none⟩ = some v → W'.cell? ⟨B, 0, none⟩ = some v
theorem KpB.trans {B : Nat} {a b c : World} (h : KpB B a b) (k : KpB B b c) : KpB B a c := fun v hv => k v (h v hv)
theorem KpB.turn {B : Nat} {w : World} (W : World) (l : Nat) (o o' : Obj) (_ : w.heap.size ≤ l) (h : W.heap[l]? = some o) (ho : o.isCells = false) (_ : o.isWalk = false) : KpB B W (W.putObj l o') := fun _ hv => cell_kept hv (grownBy_putObj' W l o') (fun r e => by cases e; exact ⟨_, h, ho⟩)

set_option maxRecDepth 100000 in
set_option maxHeartbeats 2000000 in
theorem Tryz.members_stops (F : Fence) (hF : F = .wide) (n : Nat) (hn : 2 ≤ n) (B : Nat) (m : Int) (w : World) (hB : B < w.heap.size) (hm : w.cell? ⟨B, 0, none⟩ = some (.int .i64 m)) :
    SeqStopsK F n Tryz.prog 150 #[.pointer (some ⟨B, 0, none⟩)] (fun x : Mb => #[.int .i64 x.1]) (KpB B) (fun xs => xs = idl m 10) (fun pre => pre <+: idl m 10) 10 w := fun l J Jx W hbel hJ hJx hY h0 => by
  subst hF
  have hmW : W.cell? ⟨B, 0, none⟩ = some (.int .i64 m) := (hbel.cell (p := ⟨B, 0, none⟩) hB).trans hm
  clear hm
  have h1 : 1 ≤ n := by omega
  refine callsIn_of_wp Tryz.func150 rfl trivial ?_ rfl
  simp only [Tryz.ntmps150, List.size_toArray, List.length_cons, List.length_nil, Nat.reduceAdd, Nat.reduceSub, Array.replicate_succ, Array.replicate_zero, List.push_toArray, List.append_toArray, List.nil_append, List.cons_append]
  gi_wp2
  gi_loopw [4] (fun p wr => ∃ k : Nat, k ≤ 10 ∧ p = .int .i64 k ∧ wr.cell? ⟨B, 0, none⟩ = some (.int .i64 m) ∧ J (idl m k) wr)
    (fun p _ => 10 - (intOf p).toNat)
  case atStart =>
    exact ⟨0, by omega, rfl, hmW, h0⟩
  case round =>
    obtain ⟨k, hk, rfl, hc, hJs⟩ := hrel
    by_cases hlt : k < 10
    · have hlt' : (k : Int) < 10 := by omega
      have hh := Tryz.has_in m k (by omega) hlt' wr
      cases hb : hasBit m k with
      | true =>
        rw [hb] at hh
        obtain ⟨fn, tmps, assign, body, hy, hR⟩ := hY (idl m k) ⟨(k : Int), by omega, hlt'⟩ wr hJs (by have := idl_len m k; omega)
        dsimp only at hy
        clear hY
        gi_wp2_with (refine ⟨trivial, ?_⟩; gi_at_call 151; refine (callsIn_wide.2 hh).mono ?_; rintro e w' ⟨rfl, rfl⟩)
        refine hR.mono ?_
        rintro e W3 (⟨rfl, hJ3, hk3⟩ | ⟨rfl, hJx3⟩)
        · have hc3 := hk3 _ hc
          gi_wp2
          go_roundw
          case rel => exact ⟨k + 1, by omega, rfl, hc3, by rw [idl_yes hlt hb]; exact hJ3⟩
          case measure => simp [intOf]; omega
        · gi_wp2
          refine bodyPost_ret (results_none rfl _ _ _) rfl ?_
          exact ⟨⟨_, rfl⟩, .inr ⟨_, by have := idl_pre m (k := k + 1) (n := 10) (by omega); rw [idl_yes hlt hb] at this; exact this, hJx3⟩⟩
      | false =>
        rw [hb] at hh
        clear hY
        gi_wp2_with (refine ⟨trivial, ?_⟩; gi_at_call 151; refine (callsIn_wide.2 hh).mono ?_; rintro e w' ⟨rfl, rfl⟩)
        refine ⟨fun _ h => (by cases h), ?_⟩
        gi_wp2
        go_roundw
        case rel => exact ⟨k + 1, by omega, rfl, hc, by rw [idl_no hlt hb]; exact hJs⟩
        case measure => simp [intOf]; omega
    · obtain rfl : k = 10 := by omega
      clear hY
      gi_wp2
      go_end0
      exact ⟨⟨_, rfl⟩, .inl ⟨_, rfl, hJs⟩⟩

end Go.Proofs
