/- **Functions** keep their contracts. -/
import Derived.Test.YtmlbknmjgahcfaaDoorEvC3
namespace Go.Ev
open Go

variable {P : Program} {tb : Tab} {N : Nat} {W : Nat → Prop} {a0 : Act} {g0 : Gh} {w0 : World} {D0 : Nat → Prop}
variable {s s' s1 s2 : St tb.T} {g g' : Gh} {μ μ' : Nat → Nat} {τ τ' : Nat → Option Nat} {a a' : Act} {w w' : World}
variable {Γ : List (Nat × FSpec tb)} {Δ : List (CutSpec tb)} {R : Type}

theorem enters_of {f : Nat} {fn : Func} {c : Code} (hf : P.funcs[f]? = some fn) (hb : fn.body = some c) (hn : (fn.name == "runtime.NumGoroutine") = false) : Enters P f := fun args w => by
  have hn' : ¬ fn.name = "runtime.NumGoroutine" := by simpa using hn
  simp [callFunc, hf, hb, hn']

/-- one result's value -/
def resSem (tmps : Array Value) : ResultVar → Sem Value
  | .tmp t => pure (tmps.getD t undef)
  | .cell b t => do loadVar t (← asAddr (tmps.getD b undef))
def resValue (P : Program) (a : Act) (w : World) (r : ResultVar) : Value :=
  match (resSem a.tmps r).run P w with | .ok v _ => v | .halt .. => undef

theorem res_sound (h : SimAt P tb N W a0 g0 w0 D0 s g μ τ a w) {r : ResultVar} {v : SV tb.T} (hr : resOf P s r = some v) :
    (resSem a.tmps r).run P w = .ok (resValue P a w r) w ∧ RepV P tb g w μ τ s.tok v (resValue P a w r) := by
  have key : ∀ u, (resSem a.tmps r).run P w = .ok u w → RepV P tb g w μ τ s.tok v u → (resSem a.tmps r).run P w = .ok (resValue P a w r) w ∧ RepV P tb g w μ τ s.tok v (resValue P a w r) := fun u hu hru => by
    have : resValue P a w r = u := by unfold resValue; rw [hu]
    rw [this]; exact ⟨hu, hru⟩
  cases r with
  | tmp t =>
    obtain ⟨u, hu, hru⟩ := h.env t v hr
    refine key u ?_ hru
    simp only [resSem, Array.getD_eq_getD_getElem?, Sem.run_pure]
    rw [hu]; rfl
  | cell b t =>
    simp only [resOf] at hr
    split at hr
    · rename_i i o he
      split at hr
      · rename_i cells hb
        obtain ⟨u, hu, hru⟩ := h.env b _ he
        have hu' : u = .pointer (some ⟨μ i, o, none⟩) := hru
        subst hu'
        obtain ⟨us, el, fz, e1, e2, e3⟩ := h.blk i cells hb
        obtain ⟨u, k1, k2⟩ := run_loadVar_cells (b := μ i) (b0 := o) hr e3 (fun j u hu => by
          unfold World.cell?; simp only [e1]; simpa using hu)
        refine key u ?_ k2
        have : a.tmps.getD b undef = .pointer (some ⟨μ i, o, none⟩) := by rw [Array.getD_eq_getD_getElem?, hu]; rfl
        simp only [resSem, this]
        simpa [asAddr] using k1
      · cases hr
    · cases hr

theorem run_mapM_list {α β : Type} {f : α → Sem β} {v : α → β} : ∀ {l : List α}, (∀ x ∈ l, (f x).run P w = .ok (v x) w) → (l.mapM f).run P w = .ok (l.map v) w
  | [], _ => by simp
  | x :: l, h => by
    have ih := run_mapM_list (l := l) fun y hy => h y (by simp [hy])
    simp [List.mapM_cons, h x (by simp), ih]

def packV (us : List Value) : Value := if h : us.toArray.size = 1 then us.toArray[0] else .tuple us.toArray
theorem packV_ret : ∀ {l : LSpec} {us : List Value}, us.length = l.length → RetV l us (packV us)
  | [], [], _ => by simp [RetV, packV]
  | [_], [_], _ => by simp [RetV, packV]
  | _ :: _ :: _, _ :: _ :: _, _ => by simp [RetV, packV]
  | [], _ :: _, h => by simp at h
  | _ :: _, [], h => by simp at h
  | [_], _ :: _ :: _, h => by simp at h
  | _ :: _ :: _, [_], h => by simp at h

theorem results_eq (fn : Func) (tmps : Array Value) : results fn tmps = fn.results.mapM (resSem tmps) >>= fun vs => pure (if h : vs.size = 1 then vs[0] else .tuple vs) := by
  unfold results
  congr 1

theorem results_run {fn : Func} (h : ∀ r ∈ fn.results.toList, (resSem a.tmps r).run P w = .ok (resValue P a w r) w) {l : LSpec} (hl : l.length = fn.results.size) :
    ∃ v, (results fn a.tmps).run P w = .ok v w ∧ RetV l (fn.results.toList.map (resValue P a w)) v := by
  refine ⟨packV (fn.results.toList.map (resValue P a w)), ?_, packV_ret (by simp [hl])⟩
  rw [results_eq, Sem.run_bind, Array.mapM_eq_mapM_toList, Sem.run_map, run_mapM_list h]
  rfl

/-- the static checks of a function -/
def fnB (fn : Func) (ins outs : LSpec) (c : Code) : Bool :=
  dstsB (fun d => Nat.blt d fn.ntmps && !memB d ((refsOf ins).map (·.1))) c && nodupB (ins.map (·.1)) && LSpec.plainOwn outs && Nat.ble ins.length fn.ntmps

theorem slots_begin : ∀ {l : LSpec} {vs : List Value} {k : Nat} {tail : Array Value} (pre : List Value), l.map (·.1) = List.range' k l.length → l.length = vs.length → pre.length = k → InSlots { tmps := (pre ++ vs).toArray ++ tail, defers := ([] : List Deferred) } l vs
  | [], [], _, _, _, _, _, _ => trivial
  | q :: l, v :: vs, k, tail, pre, hl, hlen, hp => by
    rw [List.map_cons, List.length_cons, List.range'_succ] at hl
    injection hl with h1 h2
    refine ⟨?_, ?_⟩
    · show ((pre ++ v :: vs).toArray ++ tail)[q.1]? = some v
      rw [h1, Array.getElem?_append_left (by simp; omega)]
      simp [← hp]
    · have := slots_begin (k := k + 1) (tail := tail) (l := l) (vs := vs) (pre ++ [v]) h2 (by simpa using hlen) (by simp [hp])
      simpa using this
  | [], _ :: _, _, _, _, _, h, _ => by simp at h
  | _ :: _, [], _, _, _, _, h, _ => by simp at h

def slotsB : LSpec → Nat → Bool
  | [], _ => true
  | q :: l, k => Nat.beq q.1 k && slotsB l (k + 1)
theorem slotsB_iff : ∀ {l : LSpec} {k : Nat}, slotsB l k = true → l.map (·.1) = List.range' k l.length
  | [], _, _ => rfl
  | q :: l, k, h => by
    simp only [slotsB, Bool.and_eq_true] at h
    have := Nat.eq_of_beq_eq_true h.1
    simp [List.range'_succ, this, slotsB_iff h.2]

/-- **a function** -/
theorem fn_sound (hm : P.follows .mixedOrders = true) {f : Nat} {fn : Func} {c : Code} {sp : FSpec tb} (hf : P.funcs[f]? = some fn) (hbody : fn.body = some c) (hname : (fn.name == "runtime.NumGoroutine") = false)
    (hΓ : ∀ p ∈ Γ, FnKeeps P tb p.1 p.2) (hsl : ∀ p ∈ Γ, p.2.ins.map (·.1) = List.range p.2.ins.length) (hb : fnB fn sp.ins sp.outs c = true) (hin : slotsB sp.ins 0 = true) (hout : slotsB sp.outs 0 = true)
    (hcut : CutsOk P tb fn.ntmps (fun t => memB t ((refsOf sp.ins).map (·.1)) = false) Δ c)
    (hJ : ∀ x y, sp.f x = some y → evFn P tb Γ Δ fn sp.ins sp.outs x = some y) : FnSound P tb f sp := by
  refine ⟨enters_of hf hbody hname, fun g w x vs bs y hxy hinv hh hn => ?_⟩
  simp only [fnB, Bool.and_eq_true] at hb
  obtain ⟨⟨⟨hd, hns⟩, hpo⟩, hnt⟩ := hb
  have hnt := Nat.le_of_ble_eq_true hnt
  have hvl := hh.length.1
  have hin' := slotsB_iff hin
  have hout' := slotsB_iff hout
  refine calls_of_wp hf hbody ?_
  have hi : InSlots { tmps := vs.toArray ++ Array.replicate (fn.ntmps - vs.toArray.size) undef, defers := ([] : List Deferred) } sp.ins vs := by
    have := slots_begin (k := 0) (tail := Array.replicate (fn.ntmps - vs.toArray.size) undef) [] hin' hvl rfl
    simpa using this
  have hN : (vs.toArray ++ Array.replicate (fn.ntmps - vs.toArray.size) undef).size = fn.ntmps := by simp; omega
  have hsim := begun_sim (W := fun t => memB t ((refsOf sp.ins).map (·.1)) = false) hinv hh hn hns hi hN
  have he := hJ x y hxy
  unfold evFn at he
  rw [hbody] at he
  simp only at he
  rw [evCode_k] at he
  obtain ⟨⟨ex, s'⟩, h1, h2⟩ := obnd_eq_some.1 he
  refine wp_mono (evCode_sound hm hΓ hsl (p := fun d => Nat.blt d fn.ntmps && !memB d ((refsOf sp.ins).map (·.1))) (fun d hd => by
    simp only [Bool.and_eq_true, Bool.not_eq_true'] at hd; exact ⟨Nat.le_of_ble_eq_true hd.1, hd.2⟩) c hd hcut hsim h1) ?_
  rintro e a' w' ⟨rfl, g', μ, τ, hs⟩
  have hret : retOf P tb fn.results sp.outs (refsOf sp.ins) s' = some y → a'.defers = [] ∧ ∃ v, (results fn a'.tmps).run P w' = .ok v w' ∧ ∃ v2 us cs g2, Ending.returned v = .returned v2 ∧ RetV sp.outs us v2 ∧ Left P tb g w sp.ins sp.outs vs bs y us cs g2 w' := fun h2 => by
    unfold retOf at h2
    cases hk : (nodupB (idsS (resAt P fn.results s') sp.outs) && Nat.beq sp.outs.length fn.results.size) with
    | false => simp [hk] at h2
    | true =>
      simp only [hk, cond_true] at h2
      simp only [Bool.and_eq_true] at hk
      have hol := Nat.eq_of_beq_eq_true hk.2
      split at h2
      · rename_i yo hyo
        split at h2
        · rename_i z hz
          simp only [Option.some.injEq] at h2; subst h2
          have hres : ∀ i v, resAt P fn.results s' i = some v → ∃ r, fn.results[i]? = some r ∧ resOf P s' r = some v := fun i v hv => by
            unfold resAt at hv
            cases hr : fn.results[i]? with
            | none => simp [hr] at hv
            | some r => exact ⟨r, rfl, by simpa [hr] using hv⟩
          -- every result is there
          have hsome : ∀ {l : LSpec} {x : XS tb l}, extS P tb s' (resAt P fn.results s') l = some x → ∀ q ∈ l, ∃ v, resAt P fn.results s' q.1 = some v := by
            intro l
            induction l with
            | nil => intro x _ q hq; simp at hq
            | cons p l ih =>
              intro x hx q hq
              cases l with
              | nil =>
                simp only [extS] at hx
                simp at hq; subst hq
                cases hg : resAt P fn.results s' q.1 with
                | none => simp [hg] at hx
                | some v => exact ⟨v, rfl⟩
              | cons p' l =>
                simp only [extS] at hx
                cases hg : resAt P fn.results s' p.1 with
                | none => simp [hg] at hx
                | some v =>
                  simp only [hg] at hx
                  cases hp : extP P tb s' p.2 v with
                  | none => simp [hp] at hx
                  | some x1 =>
                    simp only [hp] at hx
                    cases hs2 : extS P tb s' (resAt P fn.results s') (p' :: l) with
                    | none => simp [hs2] at hx
                    | some xs =>
                      rcases List.mem_cons.1 hq with e | hq
                      · subst e; exact ⟨v, hg⟩
                      · exact ih hs2 q hq
          have hall : ∀ r ∈ fn.results.toList, ∃ v, resOf P s' r = some v := fun r hr => by
            obtain ⟨i, hi, hri⟩ := List.getElem_of_mem hr
            have hi' : i < sp.outs.length := by rw [hol]; simpa using hi
            have hmem : i ∈ sp.outs.map (·.1) := by rw [hout']; simp [List.mem_range'_1, hi']
            obtain ⟨q, hq, rfl⟩ := List.mem_map.1 hmem
            obtain ⟨v, hv⟩ := hsome hyo q hq
            obtain ⟨r', h3, h4⟩ := hres _ _ hv
            have : fn.results[q.1]? = some r := by
              rw [← Array.getElem?_toList, List.getElem?_eq_getElem hi, hri]
            rw [this] at h3; simp only [Option.some.injEq] at h3; subst h3
            exact ⟨v, h4⟩
          obtain ⟨v, hv, hrv⟩ := results_run (P := P) (a := a') (w := w') (fn := fn) (fun r hr => by
            obtain ⟨v, hv⟩ := hall r hr
            exact (res_sound hs hv).1) hol
          obtain ⟨cs, hl⟩ := end_left (val := fun i => resValue P a' w' (fn.results.getD i (.tmp 0))) hh hi (fun q hq => by
            have : memB q.1 ((refsOf sp.ins).map (·.1)) = true := memB_iff.2 (List.mem_map_of_mem hq)
            rw [this]; simp) hpo hs hyo (fun q hq v hv => by
              obtain ⟨r, h3, h4⟩ := hres _ _ hv
              have : fn.results.getD q.1 (.tmp 0) = r := by rw [Array.getD_eq_getD_getElem?, h3]; rfl
              simp only [this]
              exact (res_sound hs h4).2) hz hk.1
          refine ⟨hs.defers, v, hv, v, _, cs, g', rfl, hrv, ?_⟩
          have hmap : (sp.outs.map fun q => resValue P a' w' (fn.results.getD q.1 (.tmp 0))) = fn.results.toList.map (resValue P a' w') := by
            have e1 : (sp.outs.map fun q => resValue P a' w' (fn.results.getD q.1 (.tmp 0))) = (sp.outs.map (·.1)).map fun i => resValue P a' w' (fn.results.getD i (.tmp 0)) := by rw [List.map_map]; rfl
            rw [e1, hout', hol]
            apply List.ext_getElem?
            intro i
            rcases Nat.lt_or_ge i fn.results.size with c | c
            · simp [c]
            · simp [c]
          rw [← hmap]; exact hl
        · cases h2
      · cases h2
  cases ex with
  | normal => exact hret h2
  | ret => exact hret h2
  | exit id => simp at h2
  | goto l => simp at h2

/-- a function that calls itself: by a measure -/
theorem fn_rec {f : Nat} {sp : FSpec tb} (m : XS tb sp.ins → Nat) (hent : Enters P f)
    (h : ∀ n, FnSound P tb f { sp with f := fun x => bif Nat.blt (m x) n then sp.f x else none } → FnSound P tb f { sp with f := fun x => bif Nat.blt (m x) (n + 1) then sp.f x else none }) : FnSound P tb f sp := by
  have key : ∀ n, FnSound P tb f { sp with f := fun x => bif Nat.blt (m x) n then sp.f x else none } := fun n => by
    induction n with
    | zero => exact ⟨hent, fun g w x vs bs y hy _ => by
        have : Nat.blt (m x) 0 = false := by
          cases hb : Nat.blt (m x) 0 with
          | false => rfl
          | true => exact absurd (Nat.le_of_ble_eq_true hb) (by omega)
        simp only [this, cond_false, reduceCtorEq] at hy⟩
    | succ n ih => exact h n ih
  refine ⟨hent, fun g w x vs bs y hy hinv hh hn => ?_⟩
  refine (key (m x + 1)).2 g w x vs bs y ?_ hinv hh hn
  have : Nat.blt (m x) (m x + 1) = true := Nat.ble_eq_true_of_le (Nat.le_refl _)
  simp only [this, cond_true]
  exact hy
end Go.Ev
