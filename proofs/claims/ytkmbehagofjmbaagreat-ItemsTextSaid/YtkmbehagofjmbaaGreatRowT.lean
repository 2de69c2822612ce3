/-
  What the rows of all laws share: whatever arguments came in are data; a law that is true of all data is true of all arguments.
-/
import Derived.Test.YtkmbehagofjmbaaGreatShOpen
import Derived.Test.YtkmbehagofjmbaaGreatProg
import Derived.KernelRfl
import Derived.Test.YtkmbehagofjmbaaGreatRows
import Derived.WalkKit
import Derived.ProofKit
import Derived.OpenShut
import Derived.ShutString
import Derived.ChangeOld
import Derived.Below
import Derived.Carry
import Derived.JoinedCond
namespace Go.Proofs.YtkmbehagofjmbaaGreat
open Go Go.Sh Go.Proofs Go.ChangeShapes Go.WideShapes Go.ChangeAt Go.RowKit
set_option linter.unusedVariables false

theorem bulkAll_sum {H : Type} : ∀ l : List (DataW H), Rows.uptoBulkAll l = (l.map Rows.uptoBulk).sum
  | [] => by simp [Rows.uptoBulkAll]
  | d :: l => by simp [Rows.uptoBulkAll, bulkAll_sum l]

theorem bulk_measure {H : Type} : Measure (Rows.uptoBulk : DataW H → Nat) := by
  constructor
  · intro d
    cases d with
    | lit l => cases l <;> simp [Rows.uptoBulk]
    | nil => simp [Rows.uptoBulk]
    | ptr d => simp [Rows.uptoBulk]
    | slice elems spare => simp [Rows.uptoBulk]
    | agg parts => simp [Rows.uptoBulk]
    | iface t d => simp [Rows.uptoBulk]
    | map entries => simp [Rows.uptoBulk]
    | held h => simp [Rows.uptoBulk]
  · intro s; simp [Rows.uptoBulk]
  · intro es sp; simp only [Rows.uptoBulk, bulkAll_sum]; omega
  · intro ps; simp only [Rows.uptoBulk, bulkAll_sum]; omega

def patsOf (P : Program) : List TypeId → Option (List Pat)
  | [] => some []
  | t :: ts => match tyAt P t, isAggT P t, patsOf P ts with
    | some ty, some true, some l => some (.agg ty :: l)
    | some ty, some false, some l => some (.one ty :: l)
    | _, _, _ => none

def argsWf : (ps : List Pat) → slotsDen ps → Prop
  | [], _ => True
  | .one t :: l, x => t.wf x.1 ∧ argsWf l x.2
  | .agg t :: l, x => t.wf x.1 ∧ argsWf l x.2
  | .dead :: l, x => argsWf l x
  | .own _ :: l, x => argsWf l x
  | .ptr _ :: l, x => argsWf l x
  | .mix _ :: l, x => argsWf l x.2
  | .fn _ :: l, x => argsWf l x

def argsBulk : (ps : List Pat) → slotsDen ps → Nat
  | [], _ => 0
  | .one t :: l, x => t.bulk x.1 + argsBulk l x.2
  | .agg t :: l, x => t.bulk x.1 + argsBulk l x.2
  | .dead :: l, x => argsBulk l x
  | .own _ :: l, x => argsBulk l x
  | .ptr _ :: l, x => argsBulk l x
  | .mix _ :: l, x => argsBulk l x.2
  | .fn _ :: l, x => argsBulk l x

def okArg (P : Program) (t : TypeId) : Bool := laidTy P 12 t && P.readableRec t && decide (t < P.types.size)

section
variable {P : Program} {H : Type} {enc : TypeId × Value → H} {W : World} {base : Nat}

theorem one_cells {t : TypeId} {ty : Ty} {v : Value} (ht : tyAt P t = some ty) (ha : isAggT P t = some false) (hv : Value.okWide P W .any base t v) : v.cells = #[v] := by
  unfold isAggT at ha
  unfold tyAt tyOf at ht
  unfold Value.okWide Cell.okWide Cell.ok at hv
  cases v with
  | agg cs => split at ha <;> simp_all
  | _ => rfl

theorem agg_cells {t : TypeId} {v : Value} (ha : isAggT P t = some true) (hv : Value.okWide P W .any base t v) : ∃ cs, v = .agg cs := by
  unfold isAggT at ha
  unfold Value.okWide at hv
  split at ha
  · rename_i hu; rw [hu] at hv; exact ⟨hv.choose, hv.choose_spec.1⟩
  · rename_i hu; rw [hu] at hv; exact ⟨hv.choose, hv.choose_spec.1⟩
  · cases ha
  · cases ha

theorem one_rel {ty : Ty} {a : ty.den} {v : Value} {F : Nat → Prop} {hd : Nat → Value} (h : ty.cells W F a [v]) : SSRel W F hd (.one (encOne ty a)) v := encOne_ok ty a v h

theorem open_args (hd : Nat → Value) : ∀ (ts : List TypeId) (pats : List Pat) (vals : List Value) (ds : List (DataW H)) (p : List MemPlace), patsOf P ts = some pats → ts.all (okArg P) = true →
    (∀ (j : Nat) t v, ts[j]? = some t → vals[j]? = some v → Value.okWide P W .any base t v) → DataW.TrodAll enc P W 0 (fun _ => true) true ts vals ds p →
    ∃ x : slotsDen pats, all2 (SSRel W (fun _ => False) hd) (encSlots (fun i => i) pats x) vals ∧ argsWf pats x ∧ argsBulk pats x ≤ Rows.uptoBulkAll ds := by
  intro ts
  induction ts with
  | nil =>
    intro pats vals ds p hp _ _ h
    simp only [patsOf, Option.some.injEq] at hp
    subst hp
    obtain ⟨rfl, rfl, rfl⟩ := trodAll_nil h
    exact ⟨(), trivial, trivial, Nat.zero_le _⟩
  | cons t ts ih =>
    intro pats vals ds p hp hok hval h
    obtain ⟨v, vs, d, ds, p, q, rfl, rfl, rfl, h0, hr⟩ := trodAll_cons h
    simp only [List.all_cons, Bool.and_eq_true] at hok
    obtain ⟨h1, h2⟩ := hok
    simp only [okArg, Bool.and_eq_true] at h1
    obtain ⟨⟨h1, _⟩, _⟩ := h1
    have hv := hval 0 t v rfl rfl
    have rest := fun l hl => ih l vs ds q hl h2 (fun j t v h1 h2 => hval (j + 1) t v (by simpa using h1) (by simpa using h2)) hr
    obtain ⟨fuel, hf⟩ := h0
    simp only [patsOf] at hp
    split at hp
    · rename_i ty l hty ha hl
      simp only [Option.some.injEq] at hp
      subst hp
      obtain ⟨x, hx, hw, hb⟩ := rest l hl
      obtain ⟨a, hc, hwa, hba⟩ := open_ty bulk_measure 12 t ty hty h1 _ _ _ hf
      obtain ⟨cs, rfl⟩ := agg_cells ha hv
      exact ⟨(a, x), ⟨⟨cs, rfl, enc_ok ty a _ hc⟩, hx⟩, ⟨hwa, hw⟩, by simp only [argsBulk, Rows.uptoBulkAll]; exact Nat.add_le_add hba hb⟩
    · rename_i ty l hty ha hl
      simp only [Option.some.injEq] at hp
      subst hp
      obtain ⟨x, hx, hw, hb⟩ := rest l hl
      obtain ⟨a, hc, hwa, hba⟩ := open_ty bulk_measure 12 t ty hty h1 _ _ _ hf
      rw [one_cells hty ha hv] at hc
      exact ⟨(a, x), ⟨one_rel hc, hx⟩, ⟨hwa, hw⟩, by simp only [argsBulk, Rows.uptoBulkAll]; exact Nat.add_le_add hba hb⟩
    · cases hp

theorem stay_args (hl : laidOutB P = true) {W' : World} (hb : Below W.heap.size W W') : ∀ (ts : List TypeId) (vals : List Value) (ds : List (DataW H)) (p : List MemPlace), ts.all (okArg P) = true →
    DataW.TrodAll enc P W 0 (fun _ => true) true ts vals ds p → ∃ p', DataW.TrodAll enc P W' 0 (fun b => decide (b < W.heap.size)) true ts vals ds p' := by
  intro ts
  induction ts with
  | nil => intro vals ds p _ h; obtain ⟨rfl, rfl, rfl⟩ := trodAll_nil h; exact ⟨_, trodAll_mk0⟩
  | cons t ts ih =>
    intro vals ds p hok h
    obtain ⟨v, vs, d, ds, p, q, rfl, rfl, rfl, h0, hr⟩ := trodAll_cons h
    simp only [List.all_cons, Bool.and_eq_true] at hok
    obtain ⟨h1, h2⟩ := hok
    simp only [okArg, Bool.and_eq_true, decide_eq_true_eq] at h1
    obtain ⟨⟨_, h3⟩, h4⟩ := h1
    obtain ⟨p', h'⟩ := ih vs ds q h2 hr
    have lt : ∀ x ∈ p, x.block < W.heap.size := by obtain ⟨m, hm⟩ := h0; exact DataW.trod_lt m _ _ _ hm
    exact ⟨_, trodAll_cons_mk (Below.trod hl h3 h4 h0 hb lt) h'⟩

/-- A law that is true of all data is true of all arguments. -/
theorem row_contract_any {f : FuncId} {fn : Func} {A : List Pat} {Fn : slotsDen A → Option (resDen [.one .bool])} {spec : ChangeSpec} {tb : TypeId} (hl : laidOutB P = true) (hps : patsOf P fn.params.toList = some A)
    (hok : fn.params.toList.all (okArg P) = true) (hcon : Con P f A [] [.one .bool] [] Fn) (hres : fn.resultTypes.toList = [tb]) (hsz : fn.resultTypes.size = 1) (htb : P.underlying tb = some .bool) (hvars : spec.vars = [])
    (hspec : ∀ ds : List (DataW H), ds.length = fn.params.toList.length → (spec.fn H ds).results = [.lit (.bool true)] ∧ (spec.fn H ds).args = ds ∧ (spec.fn H ds).vars = [])
    (args : Array Value) (ds gs : List (DataW H)) (before : List MemPlace) (law : ∀ x : slotsDen A, argsWf A x → argsBulk A x ≤ Rows.uptoBulkAll ds → Fn x = some (true, ()))
    (hval : ∀ (j : Nat) t v, fn.params[j]? = some t → args[j]? = some v → Value.okWide P W .any base t v)
    (hW : DataW.Whole enc P fn.params.toList spec.vars false W args.toList ds gs before) :
    Calls P f args W fun e W' => ∃ v, e = .returned v ∧ spec.post enc P fn false true false false W args v W' := by
  have hW' := hW
  obtain ⟨p, q, hA0, hV, rfl, hfz, hnd⟩ := hW
  rw [hvars] at hV
  obtain ⟨rfl, rfl⟩ := trodVars_none hV
  have hA : DataW.TrodAll enc P W 0 (fun _ => true) true fn.params.toList args.toList ds p := hA0
  obtain ⟨x, hx, hw, hb⟩ := open_args (P := P) (base := base) (fun _ => .nilIface) _ _ _ _ _ hps hok (fun j t v h1 h2 => hval j t v (by simpa using h1) (by simpa using h2)) hA
  have hlen : ds.length = fn.params.toList.length := by
    have : ∀ (ts : List TypeId) (vs : List Value) (ds : List (DataW H)) (p : List MemPlace), DataW.TrodAll enc P W 0 (fun _ => true) true ts vs ds p → ds.length = ts.length := by
      intro ts
      induction ts with
      | nil => intro vs ds p h; obtain ⟨rfl, rfl, rfl⟩ := trodAll_nil h; rfl
      | cons t ts ih => intro vs ds p h; obtain ⟨v, vs, d, ds, p, q, rfl, rfl, rfl, h0, hr⟩ := trodAll_cons h; simp [ih _ _ _ hr]
    exact this _ _ _ _ hA
  obtain ⟨hs1, hs2, hs3⟩ := hspec ds hlen
  have hF : forb (fun _ => False) (fun _ => Value.nilIface) [] = fun _ => False := by
    funext b; exact propext ⟨fun h => h.elim id (fun ⟨_, hp, _⟩ => nomatch hp), fun h => h.elim⟩
  have := hcon W (fun _ => False) (fun _ => .nilIface) x (true, ()) args.toList (fun _ h => h.elim) (fun b ⟨p, hp, _⟩ => by cases hp) (fun p hp => by cases hp) (fun p hp => by cases hp) (by
    show all2 (SSRel W (forb (fun _ => False) (fun _ => Value.nilIface) []) _) _ _
    rw [hF]; exact hx) (law x hw hb)
  refine this.mono fun e W' ⟨vs, hd', he, hr, _, _, _, _, hon, hbl⟩ => ?_
  have bel : Below W.heap.size W W' := ⟨hon.os, hon.tape, hon.output, hon.size, fun k hk => hbl k hk (fun ⟨p, hp, _⟩ => by cases hp)⟩
  have hv' : ∃ v, vs = [v] ∧ v = Value.bool true := by
    match vs, hr with
    | [v], hr => exact ⟨v, rfl, hr.1⟩
    | [], hr => exact hr.elim
    | _ :: _ :: _, hr => exact hr.2.elim
  obtain ⟨v, rfl, hv'⟩ := hv'
  subst hv'
  subst he
  obtain ⟨p', hp'⟩ := stay_args hl bel _ _ _ _ hok hA
  refine ⟨_, rfl, ds, [], _, [], p', [], hW', ?_, ?_, ?_, bel.frame _, fun h => by cases h⟩
  · rw [List.append_nil, hs1, hres, hsz]
    exact trodAll_mk1 (shut_bool htb _)
  · rw [List.append_nil, hs2]
    exact hp'
  · rw [List.append_nil, hs3, hvars]
    rfl

/-- A law that is true of all data of bulk at most 1048576. -/
theorem row_contract {f : FuncId} {fn : Func} {A : List Pat} {Fn : slotsDen A → Option (resDen [.one .bool])} {spec : ChangeSpec} {tb : TypeId} (hl : laidOutB P = true) (hps : patsOf P fn.params.toList = some A)
    (hok : fn.params.toList.all (okArg P) = true) (hcon : Con P f A [] [.one .bool] [] Fn) (hres : fn.resultTypes.toList = [tb]) (hsz : fn.resultTypes.size = 1) (htb : P.underlying tb = some .bool) (hvars : spec.vars = [])
    (hspec : ∀ ds : List (DataW H), ds.length = fn.params.toList.length → (spec.fn H ds).results = [.lit (.bool true)] ∧ (spec.fn H ds).args = ds ∧ (spec.fn H ds).vars = [])
    (law : ∀ x : slotsDen A, argsWf A x → argsBulk A x ≤ 1048576 → Fn x = some (true, ()))
    (args : Array Value) (ds gs : List (DataW H)) (before : List MemPlace)
    (hval : ∀ (j : Nat) t v, fn.params[j]? = some t → args[j]? = some v → Value.okWide P W .any base t v)
    (hW : DataW.Whole enc P fn.params.toList spec.vars false W args.toList ds gs before) (hk : Rows.uptoSmall H (ds ++ gs) = true) :
    Calls P f args W fun e W' => ∃ v, e = .returned v ∧ spec.post enc P fn false true false false W args v W' := by
  have hbulk : Rows.uptoBulkAll ds ≤ 1048576 := by
    have h := of_decide_eq_true hk
    have e : ∀ a b : List (DataW H), Rows.uptoBulkAll (a ++ b) = Rows.uptoBulkAll a + Rows.uptoBulkAll b := by
      intro a b
      induction a with
      | nil => simp [Rows.uptoBulkAll]
      | cons d a ih => simp only [List.cons_append, Rows.uptoBulkAll, ih]; omega
    rw [e] at h
    omega
  exact row_contract_any hl hps hok hcon hres hsz htb hvars hspec args ds gs before (fun x hw hb => law x hw (Nat.le_trans hb hbulk)) hval hW

end

theorem sum_le_of {α : Type} (f : α → Nat) (hf : ∀ x, 1 ≤ f x) : ∀ l : List α, l.length ≤ (l.map f).sum
  | [] => by simp
  | x :: l => by have h := sum_le_of f hf l; have hx := hf x; simp only [List.length_cons, List.map_cons, List.sum_cons]; omega

theorem bulk_len {t : Ty} (h : ∀ x, 1 ≤ t.bulk x) (l : List t.den) : l.length + 1 ≤ (Ty.sl t).bulk l := Nat.succ_le_succ (sum_le_of _ h l)
theorem bulk_ints {k : IntKind} (l : List Int) : l.length + 1 ≤ (Ty.sl (.int k)).bulk l := bulk_len (t := .int k) (fun _ => Nat.le_refl 1) l

theorem laidOut : laidOutB Tryz.prog = true := by kernel_rfl
theorem own : ownKnob Tryz.prog.godebug = none := by kernel_rfl

end Go.Proofs.YtkmbehagofjmbaaGreat
