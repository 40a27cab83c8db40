/- A row out of a contract: the law's call, from its arguments' reading to what the row asks behind it. -/
import Derived.Test.YtmlbknmjgahcfaaDoorEvX
import Derived.Carry
import Derived.RowKit
namespace Go.Ev
open Go Go.RowKit Go.ChangeShapes Go.WideShapes

variable {P : Program} {tb : Tab} {H : Type} {enc : TypeId × Value → H} {w : World} {g : Gh}

def insOf : Nat → List Nat → LSpec
  | _, [] => []
  | i, t :: ts => (i, .val t) :: insOf (i + 1) ts

/-- what the arguments bring along -/
def WfL (P : Program) (tb : Tab) : (l : LSpec) → XS tb l → Prop
  | [], _ => True
  | [a], x => one a x
  | a :: b :: l, (x, xs) => one a x ∧ WfL P tb (b :: l) xs
where
  one (a : Nat × Pat) (x : X tb a.2) : Prop := match a.2, x with
    | .val e, x => ∀ c ∈ tb.enc e x, Wf P tb c
    | _, _ => True

/-- a type's outer form, as its values have it -/
theorem aggOf_some {t : Nat} {b : Bool} (h : aggOf P t = some b) : isAggB P t = b := by
  unfold isAggB; rw [h]

theorem okWide_form {r : Reach} {base : Nat} {t : Nat} {v : Value} (h : Value.okWide P w r base t v) {ks : List CK} {d : Nat} (hk : kindsOf P d t = some ks) :
    if isAggB P t then ∃ us, v = .agg us ∧ v.cells = us else v.cells = #[v] := by
  cases d with
  | zero => simp [kindsOf] at hk
  | succ d =>
    unfold kindsOf at hk
    split at hk
    · rename_i k hu
      obtain ⟨n, rfl⟩ := okWide_int hu h
      have : isAggB P t = false := by simp [isAggB, aggOf, hu]
      simp [this, Value.cells]
    · rename_i hu
      obtain ⟨n, rfl⟩ := okWide_bool hu h
      have : isAggB P t = false := by simp [isAggB, aggOf, hu]
      simp [this, Value.cells]
    · rename_i hu
      obtain ⟨n, rfl⟩ := okWide_string hu h
      have : isAggB P t = false := by simp [isAggB, aggOf, hu]
      simp [this, Value.cells]
    · rename_i hu
      obtain ⟨a, l, c, rfl⟩ := okWide_slice hu h
      have : isAggB P t = false := by simp [isAggB, aggOf, hu]
      simp [this, Value.cells]
    · rename_i fs hu
      obtain ⟨us, rfl, _⟩ := okWide_struct hu h
      have : isAggB P t = true := by simp [isAggB, aggOf, hu]
      simp [this, Value.cells]
    · cases hk

theorem holdsV_of {t : Nat} {x : tb.T t} {v : Value} (hf : if isAggB P t then ∃ us, v = .agg us ∧ v.cells = us else v.cells = #[v]) (hr : All2 (RepD P tb g w) (tb.enc t x) v.cells.toList) : HoldsV P tb g w t x v := by
  unfold HoldsV
  cases ha : isAggB P t with
  | true =>
    simp only [ha, if_true] at hf ⊢
    obtain ⟨us, rfl, hc⟩ := hf
    exact ⟨us.toList, by simp, by rw [← hc]; exact hr⟩
  | false =>
    simp only [ha, Bool.false_eq_true, if_false] at hf ⊢
    rw [hf] at hr
    cases he : tb.enc t x with
    | nil => rw [he] at hr; exact hr.elim
    | cons c cs =>
      rw [he] at hr
      obtain ⟨h1, h2⟩ := hr
      cases cs with
      | nil => exact ⟨c, rfl, h1⟩
      | cons _ _ => exact h2.elim

/-- one argument more -/
theorem holds_argc {i t : Nat} {l : LSpec} {v : Value} {vs : List Value} {bs : List (Option Nat)} {x : tb.T t} (h : HoldsV P tb g w t x v) (hw : ∀ c ∈ tb.enc t x, Wf P tb c)
    (ih : ∃ xs : XS tb l, HoldsL P tb g w l xs vs bs ∧ WfL P tb l xs) : ∃ xs : XS tb ((i, .val t) :: l), HoldsL P tb g w ((i, .val t) :: l) xs (v :: vs) (none :: bs) ∧ WfL P tb ((i, .val t) :: l) xs := by
  obtain ⟨xs, h1, h2⟩ := ih
  cases l with
  | nil =>
    cases vs with
    | nil => cases bs with
      | nil => exact ⟨x, ⟨h, rfl⟩, hw⟩
      | cons _ _ => exact h1.elim
    | cons _ _ => exact h1.elim
  | cons a l => exact ⟨(x, xs), ⟨⟨h, rfl⟩, h1⟩, ⟨hw, h2⟩⟩

/-- all arguments, read -/
theorem read_args (R : RdTab P tb) (hg : ∀ b, g b = .con) {base : Nat} : ∀ (ts : List Nat) (i : Nat) (vs : List Value) (ds : List (DataW H)) (p : List MemPlace), (∀ t ∈ ts, t ∈ R.S) →
    (∀ (j : Nat) t v, ts[j]? = some t → vs[j]? = some v → Value.okWide P w .any base t v) → DataW.TrodAll enc P w 0 (fun _ => true) true ts vs ds p → (∀ m ∈ DataW.weightsEach P ts ds, m ≤ 140737488351232) →
    ∃ xs : XS tb (insOf i ts), HoldsL P tb g w (insOf i ts) xs vs (ts.map fun _ => none) ∧ WfL P tb (insOf i ts) xs
  | [], i, vs, ds, p, _, _, h, _ => by
    cases vs with
    | nil => exact ⟨(), trivial, trivial⟩
    | cons v vs => cases ds <;> exact h.elim
  | t :: ts, i, vs, ds, p, hS, hv, h, hw => by
    cases vs with
    | nil => cases ds <;> exact h.elim
    | cons v vs =>
      cases ds with
      | nil => exact h.elim
      | cons d ds =>
        obtain ⟨p1, p2, ⟨fuel, h1⟩, h2, rfl⟩ := h
        obtain ⟨ks, hk, hs, _⟩ := R.kinds t (hS t (by simp))
        have hf := okWide_form (hv 0 t v rfl rfl) hk
        obtain ⟨x, hx, hxw⟩ := R.dec (hS t (by simp)) hk (read R hg fuel _ t ks _ _ hk h1 (fun m hm => hw m (by simp [DataW.weightsEach, hm])) hs)
        exact holds_argc (holdsV_of hf hx) hxw (read_args R hg ts (i + 1) vs ds p2 (fun t ht => hS t (by simp [ht])) (fun j t v ht hv' => hv (j + 1) t v (by simpa using ht) (by simpa using hv')) h2 (fun m hm => hw m (by simp [DataW.weightsEach, hm])))

theorem trodAll_length {ts : List Nat} {base : Nat} {sp : Nat → Bool} {held : Bool} : ∀ {ts : List Nat} {vs : List Value} {ds : List (DataW H)} {p : List MemPlace}, DataW.TrodAll enc P w base sp held ts vs ds p → ds.length = ts.length ∧ vs.length = ts.length
  | [], [], [], _, _ => ⟨rfl, rfl⟩
  | _ :: _, _ :: _, _ :: _, _, ⟨_, _, _, h, _⟩ => by
    have := trodAll_length (ts := ts) h
    exact ⟨by simp [this.1], by simp [this.2]⟩
  | [], _ :: _, _, _, h => by simp [DataW.TrodAll] at h
  | [], [], _ :: _, _, h => by simp [DataW.TrodAll] at h
  | _ :: _, [], _, _, h => by simp [DataW.TrodAll] at h
  | _ :: _, _ :: _, [], _, h => by simp [DataW.TrodAll] at h

theorem trodAll_stays {w' : World} (hl : laidOutB P = true) (hb : Below w.heap.size w w') : ∀ {ts : List Nat} {vs : List Value} {ds : List (DataW H)} {p : List MemPlace}, (∀ t ∈ ts, P.readableRec t = true ∧ t < P.types.size) →
    DataW.TrodAll enc P w 0 (fun _ => true) true ts vs ds p → DataW.TrodAll enc P w' 0 (fun b => decide (b < w.heap.size)) true ts vs ds p
  | [], [], [], _, _, h => h
  | t :: ts, v :: vs, d :: ds, _, hr, ⟨p, q, h1, h2, e⟩ => by
    refine ⟨p, q, Below.trod hl (hr t (by simp)).1 (hr t (by simp)).2 h1 hb ?_, trodAll_stays hl hb (fun t ht => hr t (by simp [ht])) h2, e⟩
    obtain ⟨fuel, h1⟩ := h1
    exact fun x hx => DataW.trod_lt fuel _ _ _ h1 x hx
  | [], _ :: _, _, _, _, h => by simp [DataW.TrodAll] at h
  | [], [], _ :: _, _, _, h => by simp [DataW.TrodAll] at h
  | _ :: _, [], _, _, _, h => by simp [DataW.TrodAll] at h
  | _ :: _, _ :: _, [], _, _, h => by simp [DataW.TrodAll] at h

theorem blocks_none (ts : List Nat) : blocksOf (ts.map fun _ => (none : Option Nat)) = [] := by induction ts <;> simp_all [blocksOf]
theorem touched_none : ∀ (l : LSpec) (ts : List Nat), touched l (ts.map fun _ => (none : Option Nat)) = []
  | [], ts => by cases ts <;> rfl
  | a :: l, [] => rfl
  | a :: l, t :: ts => by
    have := touched_none l ts
    obtain ⟨n, p⟩ := a
    cases p <;> simp [touched, this]

/-- what a law tells: true -/
def TellsTrue (P : Program) (tb : Tab) (sp : FSpec tb) : Prop := ∀ x, WfL P tb sp.ins x → ∃ y, sp.f x = some y ∧ ∀ g w us cs v, HoldsL P tb g w sp.outs y.outs us cs → RetV sp.outs us v → v = .bool true

theorem law_calls (R : RdTab P tb) {f : Nat} {fn : Func} {sp : FSpec tb} {s : ChangeSpec} {ts : List Nat} {rb : Nat} (hsound : FnSound P tb f sp) (hlaw : TellsTrue P tb sp)
    (hp : fn.params.toList = ts) (hins : sp.ins = insOf 0 ts) (hS : ∀ t ∈ ts, t ∈ R.S) (hr : fn.resultTypes = #[rb]) (hrb : P.underlying rb = some .bool)
    (hvars : s.vars = []) (hfn : ∀ ds : List (DataW H), ds.length = ts.length → s.fn H ds = { results := [.lit (.bool true)], args := ds })
    (hl : laidOutB P = true) (hread : ∀ t ∈ ts, P.readableRec t = true ∧ t < P.types.size)
    {W : World} {base : Nat} {args : Array Value} {ds gs : List (DataW H)} {before : List MemPlace}
    (hval : ∀ (j : Nat) t v, fn.params[j]? = some t → args[j]? = some v → Value.okWide P W .any base t v)
    (hW : DataW.Whole enc P fn.params.toList s.vars false W args.toList ds gs before)
    (hz : (DataW.weightsEach P (fn.params.toList ++ s.plain.varTypes P) (ds ++ gs)).all (· ≤ reachBytes) = true)
    (hinv : tb.inv (fun _ => .con) W) :
    Calls P f args W fun e W' => ∃ v, e = .returned v ∧ s.post enc P fn false true false false W args v W' := by
  obtain ⟨ins, outs, F⟩ := sp
  simp only at hins
  subst hins
  have hW' := hW
  obtain ⟨p, q, hA, hV, rfl, _, _⟩ := hW
  rw [hvars] at hV
  obtain ⟨rfl, rfl⟩ := trodVars_none hV
  rw [hp] at hA
  obtain ⟨hdl, hvl⟩ := trodAll_length (ts := ts) hA
  have hwt : ∀ m ∈ DataW.weightsEach P ts ds, m ≤ 140737488351232 := by
    have e0 : s.plain.varTypes P = [] := by
      have : s.plain.vars = [] := hvars
      simp [DataSpec.varTypes, this]
    rw [hp, e0, List.append_nil, List.append_nil] at hz
    intro m hm
    have := List.all_eq_true.1 hz m hm
    have : m ≤ reachBytes := by simpa using this
    unfold reachBytes at this
    omega
  obtain ⟨x, hx, hxw⟩ := read_args R (g := fun _ => .con) (fun _ => rfl) ts 0 args.toList ds p hS (fun j t v ht hv => hval j t v (by rw [← hp] at ht; simpa using ht) (by simpa using hv)) hA hwt
  obtain ⟨y, hy, hout⟩ := hlaw x hxw
  have hc := hsound.2 (fun _ => .con) W x args.toList _ y hy hinv hx (by rw [blocks_none]; exact List.nodup_nil)
  have ea : args.toList.toArray = args := by simp
  rw [ea] at hc
  refine hc.mono ?_
  rintro e W1 ⟨v, us, cs, g', rfl, hret, hext, hho, _⟩
  have hv := hout g' W1 us cs v hho hret
  subst hv
  refine ⟨_, rfl, ds, [], p ++ [], [], p, [], hW', ?_, ?_, ?_, ?_, fun h => by cases h⟩
  · rw [List.append_nil, hfn ds hdl, hr]
    exact trodAll_mk1 (shut_bool hrb true)
  · rw [List.append_nil, hfn ds hdl, hp]
    refine trodAll_stays hl ⟨hext.os, hext.tape, hext.output, hext.size, fun k hk => (hext.con k hk rfl).1⟩ hread hA
  · rw [List.append_nil, hfn ds hdl, hvars]
    rfl
  · exact Below.frame ⟨hext.os, hext.tape, hext.output, hext.size, fun k hk => (hext.con k hk rfl).1⟩ _
end Go.Ev
