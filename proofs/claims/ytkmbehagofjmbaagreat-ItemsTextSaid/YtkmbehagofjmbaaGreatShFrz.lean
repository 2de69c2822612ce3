/-
  A list of the call's own, read from now on as a list that stays as it is. No project text.
-/
import Derived.Test.YtkmbehagofjmbaaGreatShTab
namespace Go.Sh

def SV.frz (i : Nat) (t : Ty) (l : List t.den) : SV → SV
  | .own j => bif Nat.beq j i then .fz t l else .own j
  | .vw j n off len => bif Nat.beq j i then (bif Nat.beq n t.nc then .fz t ((l.drop off).take len) else .dead) else .vw j n off len
  | v => v.killed i

def frzCells (i : Nat) (t : Ty) (l : List t.den) : List SV → List SV
  | [] => []
  | v :: r => v.frz i t l :: frzCells i t l r

def Cv.frz (i : Nat) (t : Ty) (l : List t.den) : Cv → Cv
  | .one v => .one (v.frz i t l)
  | .agg c => .agg (frzCells i t l c)

def frzCvs (i : Nat) (t : Ty) (l : List t.den) : List Cv → List Cv
  | [] => []
  | v :: r => v.frz i t l :: frzCvs i t l r

def SS.frz (i : Nat) (t : Ty) (l : List t.den) : SS → SS
  | .val c => .val (c.frz i t l)
  | .tup c => .tup (frzCvs i t l c)

def frzSlots (i : Nat) (t : Ty) (l : List t.den) : List SS → List SS
  | [] => []
  | v :: r => v.frz i t l :: frzSlots i t l r

def Ob.frz (i : Nat) (t : Ty) (l : List t.den) : Ob → Ob
  | .box c => .box (frzCells i t l c)
  | .clo g c => .clo g (frzCells i t l c)
  | o => o.killed i

def frzObjs (i : Nat) (t : Ty) (l : List t.den) : List (Nat × Ob) → List (Nat × Ob)
  | [] => []
  | (j, o) :: r => bif Nat.beq j i then frzObjs i t l r else (j, o.frz i t l) :: frzObjs i t l r

def St.frz (i : Nat) (t : Ty) (l : List t.den) (S : St) : St := ⟨frzSlots i t l S.slots, frzObjs i t l S.objs, killPins i S.pins⟩

section
variable {C : Ctx} {hd : Nat → Value} {S : St} {tmps : Array Value} {w : World}

theorem mem_frzObjs {i : Nat} {t : Ty} {l : List t.den} : ∀ {r : List (Nat × Ob)} {p : Nat × Ob}, p ∈ frzObjs i t l r → p.1 ≠ i ∧ ∃ o, (p.1, o) ∈ r ∧ p.2 = o.frz i t l
  | [], _, h => by simp [frzObjs] at h
  | (j, o) :: r, p, h => by
    simp only [frzObjs] at h
    cases hb : Nat.beq j i with
    | true => simp only [hb, cond_true] at h; obtain ⟨h1, o', h2, h3⟩ := mem_frzObjs h; exact ⟨h1, o', .tail _ h2, h3⟩
    | false =>
      simp only [hb, cond_false, List.mem_cons] at h
      rcases h with rfl | h
      · refine ⟨fun e => ?_, o, .head _, rfl⟩
        have e : j = i := e
        subst e
        simp at hb
      · obtain ⟨h1, o', h2, h3⟩ := mem_frzObjs h; exact ⟨h1, o', .tail _ h2, h3⟩

theorem ids_frzObjs (i : Nat) (t : Ty) (l : List t.den) : ∀ (r : List (Nat × Ob)), ((frzObjs i t l r).map (·.1)).Sublist (r.map (·.1))
  | [] => by simp [frzObjs]
  | (j, o) :: r => by
    simp only [frzObjs]
    cases Nat.beq j i with
    | true => exact (ids_frzObjs i t l r).cons _
    | false => exact (ids_frzObjs i t l r).cons_cons _

section frz
variable {F F' : Nat → Prop} {i : Nat} {e : TypeId} {t : Ty} {l : List t.den}

theorem SVRel.frz (k : Keeps w w (C.F hd S) F') (ho : ObRel w (C.F hd S) hd (hd i) (.arr e t l)) (hF : ∀ b, blk (hd i) = some b → ¬ F' b) {v : SV} {x : Value} (h : SVRel w (C.F hd S) hd v x) : SVRel w F' hd (v.frz i t l) x := by
  have other : SVRel w F' hd (v.killed i) x := SVRel.kill k i (fun _ _ => rfl) h
  cases v with
  | own j =>
    simp only [SV.frz]
    cases hb : Nat.beq j i with
    | true =>
      have e := Nat.eq_of_beq_eq_true hb
      subst e
      have hx : x = hd j := h.1
      subst hx
      exact own_frozen ho k hF
    | false => simp only [SV.killed, hb, cond_false] at other; exact other
  | vw j n off len =>
    simp only [SV.frz]
    cases hb : Nat.beq j i with
    | true =>
      have e := Nat.eq_of_beq_eq_true hb
      subst e
      simp only [cond_true]
      cases hn : Nat.beq n t.nc with
      | true =>
        have e := Nat.eq_of_beq_eq_true hn
        subst e
        exact vw_frozen ho k hF h
      | false => exact True.intro
    | false => simp only [SV.killed, hb, cond_false] at other; exact other
  | _ => exact other

theorem all2_frzCells (k : Keeps w w (C.F hd S) F') (ho : ObRel w (C.F hd S) hd (hd i) (.arr e t l)) (hF : ∀ b, blk (hd i) = some b → ¬ F' b) : ∀ {c : List SV} {m : List Value}, all2 (SVRel w (C.F hd S) hd) c m → all2 (SVRel w F' hd) (frzCells i t l c) m
  | [], [], _ => trivial
  | _ :: _, _ :: _, h => ⟨SVRel.frz k ho hF h.1, all2_frzCells k ho hF h.2⟩
  | [], _ :: _, h => h.elim
  | _ :: _, [], h => h.elim

theorem CvRel.frz (k : Keeps w w (C.F hd S) F') (ho : ObRel w (C.F hd S) hd (hd i) (.arr e t l)) (hF : ∀ b, blk (hd i) = some b → ¬ F' b) {v : Cv} {x : Value} (h : CvRel w (C.F hd S) hd v x) : CvRel w F' hd (v.frz i t l) x := by
  cases v with
  | one v => exact SVRel.frz k ho hF h
  | agg c => obtain ⟨cs, hx, hl⟩ := h; exact ⟨cs, hx, all2_frzCells k ho hF hl⟩

theorem all2_frzCvs (k : Keeps w w (C.F hd S) F') (ho : ObRel w (C.F hd S) hd (hd i) (.arr e t l)) (hF : ∀ b, blk (hd i) = some b → ¬ F' b) : ∀ {c : List Cv} {m : List Value}, all2 (CvRel w (C.F hd S) hd) c m → all2 (CvRel w F' hd) (frzCvs i t l c) m
  | [], [], _ => trivial
  | _ :: _, _ :: _, h => ⟨CvRel.frz k ho hF h.1, all2_frzCvs k ho hF h.2⟩
  | [], _ :: _, h => h.elim
  | _ :: _, [], h => h.elim

theorem SSRel.frz (k : Keeps w w (C.F hd S) F') (ho : ObRel w (C.F hd S) hd (hd i) (.arr e t l)) (hF : ∀ b, blk (hd i) = some b → ¬ F' b) {v : SS} {x : Value} (h : SSRel w (C.F hd S) hd v x) : SSRel w F' hd (v.frz i t l) x := by
  cases v with
  | val v => exact CvRel.frz k ho hF h
  | tup c => obtain ⟨cs, hx, hl⟩ := h; exact ⟨cs, hx, all2_frzCvs k ho hF hl⟩

theorem all2_frzSlots (k : Keeps w w (C.F hd S) F') (ho : ObRel w (C.F hd S) hd (hd i) (.arr e t l)) (hF : ∀ b, blk (hd i) = some b → ¬ F' b) : ∀ {c : List SS} {m : List Value}, all2 (SSRel w (C.F hd S) hd) c m → all2 (SSRel w F' hd) (frzSlots i t l c) m
  | [], [], _ => trivial
  | _ :: _, _ :: _, h => ⟨SSRel.frz k ho hF h.1, all2_frzSlots k ho hF h.2⟩
  | [], _ :: _, h => h.elim
  | _ :: _, [], h => h.elim

theorem ObRel.frz (k : Keeps w w (C.F hd S) F') (ho : ObRel w (C.F hd S) hd (hd i) (.arr e t l)) (hF : ∀ b, blk (hd i) = some b → ¬ F' b) {v : Value} {o : Ob} (h : ObRel w (C.F hd S) hd v o) : ObRel w F' hd v (o.frz i t l) := by
  have other : ObRel w F' hd v (o.killed i) := ObRel.kill k i (fun _ _ => rfl) (fun _ _ => rfl) h
  cases o with
  | box cells => obtain ⟨b, cur, e, hv, hg, hl⟩ := h; exact ⟨b, cur, e, hv, hg, all2_frzCells k ho hF hl⟩
  | clo g cells => obtain ⟨cs, e, hl⟩ := h; exact ⟨cs, e, all2_frzCells k ho hF hl⟩
  | _ => exact other
end frz

theorem Inv.frz (I : Inv C hd S tmps w) {i : Nat} {e : TypeId} {t : Ty} {l : List t.den} (hm : (i, Ob.arr e t l) ∈ S.objs) : Inv C hd (S.frz i t l) tmps w := by
  have hF : ∀ b, C.F hd (S.frz i t l) b → C.F hd S b := by
    rintro b (h | ⟨p, hp, hpb⟩)
    · exact .inl h
    · obtain ⟨_, o', ho', _⟩ := mem_frzObjs hp
      exact .inr ⟨_, ho', hpb⟩
  have k : Keeps w w (C.F hd S) (C.F hd (S.frz i t l)) := ⟨fun _ _ _ => rfl, fun b _ h => hF b h⟩
  have hn : ∀ b, blk (hd i) = some b → ¬ C.F hd (S.frz i t l) b := by
    rintro b hb (h | ⟨p, hp, hpb⟩)
    · have := C.small b h
      rcases I.place _ hm b hb with h' | h'
      · omega
      · exact this.2 h'
    · obtain ⟨hne, o', ho', _⟩ := mem_frzObjs hp
      exact I.apart _ ho' _ hm hne b hpb hb
  have ho := I.objs _ hm
  refine ⟨all2_frzSlots k ho hn I.slots, ?_, List.Sublist.nodup (ids_frzObjs i t l S.objs) I.nodup, ?_, ?_, I.still, fun j hj => I.pins j (mem_killPins hj).2⟩
  · intro p hp
    obtain ⟨_, o', ho', he⟩ := mem_frzObjs hp
    rw [he]
    exact ObRel.frz k ho hn (I.objs _ ho')
  · intro p hp q hq hne b hpb hqb
    obtain ⟨_, o1, ho1, _⟩ := mem_frzObjs hp
    obtain ⟨_, o2, ho2, _⟩ := mem_frzObjs hq
    exact I.apart _ ho1 _ ho2 hne b hpb hqb
  · intro p hp b hpb
    obtain ⟨_, o1, ho1, _⟩ := mem_frzObjs hp
    exact I.place _ ho1 b hpb

/-- Object i frozen, if it is a list that did not come in. -/
def St.still1 (i : Nat) (S : St) : St :=
  match memN i S.pins, look S.objs i with
  | false, some (.arr _ t l) => S.frz i t l
  | _, _ => S

def St.stillAll : List Nat → St → St
  | [], S => S
  | i :: is, S => St.stillAll is (S.still1 i)

/-- All lists of the call's own that did not come in. -/
def St.tidy (S : St) : St := St.stillAll (S.objs.map (·.1)) S

theorem Inv.still1 (I : Inv C hd S tmps w) (i : Nat) : Inv C hd (S.still1 i) tmps w := by
  unfold St.still1
  split
  · rename_i h1 h2
    exact I.frz (look_mem h2)
  · exact I

theorem Inv.stillAll : ∀ (is : List Nat) {S : St}, Inv C hd S tmps w → Inv C hd (St.stillAll is S) tmps w
  | [], _, I => I
  | i :: is, _, I => Inv.stillAll is (I.still1 i)

theorem Inv.tidy (I : Inv C hd S tmps w) : Inv C hd S.tidy tmps w := Inv.stillAll _ I

end
end Go.Sh
