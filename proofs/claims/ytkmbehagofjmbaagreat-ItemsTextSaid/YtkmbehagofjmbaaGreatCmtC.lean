import Derived.Test.YtkmbehagofjmbaaGreatIds
import Derived.Test.YtkmbehagofjmbaaGreatShTiny
namespace Go.Proofs.YtkmbehagofjmbaaGreat
open Go.Sh Go.RowKit

theorem On.of_below {B : Nat} {w w' : World} (h : Below B w w') : On w w' := ⟨h.os, h.tape, h.output, h.size⟩

theorem con_lowest : Con Tryz.prog 62 [.one (.int .i64), .one (.int .i64)] [] [.one (.int .i64)] [] (fun (x : Int × Int × Unit) => some ((lowGo x.2.1 0 (idl x.1 10), ()) : Int × Unit)) := by
  intro w F hd x y vals _ _ _ _ hargs hy
  obtain ⟨m, k, u⟩ := x
  match vals, hargs with
  | [a, b], ⟨ha, hb, _⟩ =>
    have ha : a = .int .i64 m := ha
    have hb : b = .int .i64 k := hb
    subst ha
    subst hb
    simp only [Option.some.injEq] at hy
    subst hy
    refine (Tryz.lowest_calls m k w).mono ?_
    rintro e w' ⟨rfl, hB⟩
    refine ⟨[.int .i64 _], hd, rfl, ⟨rfl, trivial⟩, fun p hp => (by cases hp), fun p hp => (by cases hp), fun i hi => (by cases hi), fun b hb => ?_, On.of_below hB, fun b hlt _ => hB.block b hlt⟩
    obtain ⟨p, hp, _⟩ := hb
    cases hp

theorem rows_ints {w : World} {F : Nat → Prop} : ∀ l : List Mb, rows ((Ty.int .i64).cells w F) (l.map (·.1)) (l.map fun x => Value.int .i64 x.1)
  | [] => rfl
  | x :: l => ⟨[.int .i64 x.1], _, rfl, rfl, rows_ints l⟩

theorem con_ids : Con Tryz.prog 88 [.one (.int .i64)] [] [.own 3 (.int .i64)] [] (fun (x : Int × Unit) => some (((idl x.1 10).map (·.1), ()) : List Int × Unit)) := by
  intro w F hd x y vals _ _ _ _ hargs hy
  obtain ⟨m, u⟩ := x
  match vals, hargs with
  | [a], ⟨ha, _⟩ =>
    have ha : a = .int .i64 m := ha
    subst ha
    simp only [Option.some.injEq] at hy
    subst hy
    refine (Tryz.ids_calls m w).mono ?_
    rintro e w' ⟨v, rfl, ho, hB⟩
    have hv : isHdl v = true := by
      rcases ho.2 with ⟨rfl, _⟩ | ⟨g, cap, cur, rfl, _⟩ <;> rfl
    have hblk : ∀ b, blk v = some b → w.heap.size ≤ b := by
      intro b hb
      rcases ho.2 with ⟨rfl, _⟩ | ⟨g, cap, cur, rfl, hle, _⟩
      · cases hb
      · cases hb; exact hle
    have ho0 : w'.ownsRow 0 3 1 v ((idl m 10).map (·.1)).length ((idl m 10).map fun x => Value.int .i64 x.1) := by
      rw [List.length_map]
      refine ⟨ho.1, ?_⟩
      rcases ho.2 with h | ⟨g, cap, cur, h1, _, h2⟩
      · exact .inl h
      · exact .inr ⟨g, cap, cur, h1, Nat.zero_le _, h2⟩
    refine ⟨[v], fun _ => v, rfl, ⟨⟨rfl, hv⟩, trivial⟩, ?_, ?_, fun i hi => (by cases hi), ?_, On.of_below hB, fun b hlt _ => hB.block b hlt⟩
    · intro p hp
      have hp : p ∈ [(ownAt 0, Ob.arr 3 (.int .i64) ((idl m 10).map (·.1)))] := hp
      rw [List.mem_singleton] at hp
      subst hp
      exact ⟨_, ho0, rows_ints _⟩
    · intro p hp q hq hne
      have hp : p ∈ [(ownAt 0, Ob.arr 3 (.int .i64) ((idl m 10).map (·.1)))] := hp
      have hq : q ∈ [(ownAt 0, Ob.arr 3 (.int .i64) ((idl m 10).map (·.1)))] := hq
      rw [List.mem_singleton] at hp hq
      subst hp
      subst hq
      exact absurd rfl hne
    · rintro b ⟨p, hp, hb⟩
      exact .inl (hblk b hb)

end Go.Proofs.YtkmbehagofjmbaaGreat
