import Derived.Test.YtkmbehagofjmbaaGreatSrt
import Derived.Test.YtkmbehagofjmbaaGreatShTiny
namespace Go.Proofs.YtkmbehagofjmbaaGreat
open Go.Sh Go.RowKit

noncomputable def infoAt (t : TypeId) : TypeInfo := (Tryz.prog.info? t).getD default
def isSwap (k : Nat) (fn : Func) : Bool := fn.name == "internal/reflectlite" ++ ".Swapper$" ++ toString k
noncomputable def swapAt (n : Nat) (e : TypeId) : Option Nat := Array.findIdx? (isSwap (Lib.swapperK n (infoAt e) 25)) Tryz.prog.funcs

theorem grow_on (w : World) (os : Array Obj) : On w (Sort.grow w os) ∧ ∀ b, b < w.heap.size → (Sort.grow w os).heap[b]? = w.heap[b]? :=
  ⟨⟨rfl, rfl, rfl, by simp⟩, fun _ h => Sort.heap_grow_old w os h⟩

theorem some_of {α : Type} {o : Option α} (h : o.isSome = true) : ∃ x, o = some x := by
  cases o with
  | none => cases h
  | some x => exact ⟨x, rfl⟩

theorem tiny_of {t e : TypeId} (hi : Tryz.prog.info? t = some (infoAt t)) (hd : (infoAt t).desc = .slice e) (hp : Tryz.prog.packed t = false) (he : Tryz.prog.info? e = some (infoAt e)) (hk : ∀ w, (Extern.Rtype.kind e).run Tryz.prog w = .ok 25 w)
    (h0 : (swapAt 0 e).isSome = true) (h1 : (swapAt 1 e).isSome = true) : TinyOk Tryz.prog 168 t := by
  intro p n c hn lf la lb w
  have key : ∃ f, swapAt n e = some f := by
    match n, hn with
    | 0, _ => exact some_of h0
    | 1, _ => exact some_of h1
  obtain ⟨f, hf⟩ := key
  exact (Tryz.sort_tiny t e (infoAt t) (infoAt e) hi hd hp he 25 hk p n c hn f hf lf la lb w).mono fun e' w' ⟨he', os, hw⟩ => by
    subst hw
    exact ⟨he', grow_on w os⟩

theorem tiny58 : TinyOk Tryz.prog 168 58 := tiny_of (e := 234) (by kernel_rfl) (by kernel_rfl) (by kernel_rfl) (by kernel_rfl) (fun w => by kernel_rfl) (by kernel_rfl) (by kernel_rfl)
theorem tiny196 : TinyOk Tryz.prog 168 196 := tiny_of (e := 201) (by kernel_rfl) (by kernel_rfl) (by kernel_rfl) (by kernel_rfl) (fun w => by kernel_rfl) (by kernel_rfl) (by kernel_rfl)

theorem sort_raw : RawOk Tryz.prog [⟨168, fun d xs lk κ => tinySort [58, 196] d xs lk κ⟩] :=
  tiny_raw fun t ht => by
    rcases List.mem_cons.1 ht with rfl | ht
    · exact tiny58
    · rw [List.mem_singleton] at ht
      subst ht
      exact tiny196
end Go.Proofs.YtkmbehagofjmbaaGreat
