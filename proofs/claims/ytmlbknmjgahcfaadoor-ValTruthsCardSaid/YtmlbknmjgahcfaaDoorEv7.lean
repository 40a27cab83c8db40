/- Operations that look at temporaries alone: all of them. -/
import Derived.Test.YtmlbknmjgahcfaaDoorEv6
import Derived.Laws.BytesString
import Derived.Laws.Cells
namespace Go.Ev
open Go

variable {P : Program} {tb : Tab} {g : Gh} {w : World} {μ : Nat → Nat} {τ : Nat → Option Nat} {tok : Nat → Bool}

theorem cv_sound {a : AC tb.T} {c : CV tb.T} {v : Value} (h : a.cv = some c) (hr : RepC P tb g w μ τ tok a v) : RepD P tb g w c v := by
  cases a <;> simp only [AC.cv, Option.some.injEq, reduceCtorEq] at h
  · subst h; exact hr
  · subst h; exact hr.1
theorem cvs_sound : ∀ {as : List (AC tb.T)} {cs : List (CV tb.T)} {vs : List Value}, cvs as = some cs → All2 (RepC P tb g w μ τ tok) as vs → All2 (RepD P tb g w) cs vs
  | [], cs, vs, h, hr => by
    simp only [cvs, Option.some.injEq] at h; subst h
    cases vs with
    | nil => trivial
    | cons _ _ => exact hr.elim
  | a :: as, cs, [], h, hr => hr.elim
  | a :: as, cs, v :: vs, h, ⟨h1, h2⟩ => by
    simp only [cvs] at h
    cases ha : a.cv with
    | none => simp [ha] at h
    | some c =>
      cases hs : cvs as with
      | none => simp [ha, hs] at h
      | some cs' =>
        simp only [ha, hs, Option.some.injEq] at h; subst h
        exact ⟨cv_sound ha h1, cvs_sound hs h2⟩
theorem RepD.inR {c : CV tb.T} {v : Value} (h : RepD P tb g w c v) : c.inR := by
  cases h <;> first | assumption | trivial
theorem all_inR : ∀ {cs : List (CV tb.T)} {vs : List Value}, All2 (RepD P tb g w) cs vs → ∀ c ∈ cs, c.inR
  | [], _, _, c, hc => by simp at hc
  | c :: cs, v :: vs, ⟨h1, h2⟩, d, hd => by
    rcases List.mem_cons.1 hd with e | e
    · subst e; exact h1.inR
    · exact all_inR h2 d e
  | _ :: _, [], h, _, _ => h.elim
theorem RepD.le {c d : CV tb.T} {v : Value} (h : RepD P tb g w c v) (hl : CV.le c d) : RepD P tb g w d v := by
  rcases hl with e | ⟨e, e', he⟩
  · subst e; exact h
  · subst e; subst he; cases h; exact .slnil e'
theorem all_le : ∀ {cs ds : List (CV tb.T)} {vs : List Value}, All2 (RepD P tb g w) cs vs → All2 CV.le cs ds → All2 (RepD P tb g w) ds vs
  | [], [], [], _, _ => trivial
  | _ :: _, _ :: _, _ :: _, ⟨h1, h2⟩, ⟨l1, l2⟩ => ⟨h1.le l1, all_le h2 l2⟩
  | [], [], _ :: _, h, _ => h.elim
  | [], _ :: _, _, _, l => l.elim
  | _ :: _, [], _, _, l => l.elim
  | _ :: _, _ :: _, [], h, _ => h.elim
/-- what is read as a value of type e is one -/
theorem dec_sound {e : Nat} {cs : List (CV tb.T)} {x : tb.T e} {vs : List Value} (h : tb.dec e cs = some x) (hr : All2 (RepD P tb g w) cs vs) : All2 (RepD P tb g w) (tb.enc e x) vs :=
  all_le hr (tb.ok e cs x h (all_inR hr))

theorem RepC_d {c : CV tb.T} {v : Value} (h : RepD P tb g w c v) : RepV P tb g w μ τ tok (.c (.d c)) v := h

/-! ## two operands -/
theorem eqGuard_int (op : BinOp) (xt : Nat) (x y : Operand) (k k' : IntKind) (a b : Int) (w : World) : (eqGuard op xt x y (.int k a) (.int k' b)).run P w = .ok () w := by
  cases op <;> simp [eqGuard]
theorem eqGuard_str (op : BinOp) (xt : Nat) (x y : Operand) (a b : ByteArray) (w : World) : (eqGuard op xt x y (.string a) (.string b)).run P w = .ok () w := by
  cases op <;> simp [eqGuard]
theorem eqGuard_bool (op : BinOp) (xt : Nat) (x y : Operand) (a b : Bool) (w : World) : (eqGuard op xt x y (.bool a) (.bool b)).run P w = .ok () w := by
  cases op <;> simp [eqGuard]

theorem evBin_sound {op : BinOp} {xt : Nat} {x y : SV tb.T} {c : CV tb.T} {ox oy : Operand} {u v : Value} (h : evBin P op xt x y some = some c) (hx : RepV P tb g w μ τ tok x u) (hy : RepV P tb g w μ τ tok y v) :
    ∃ r, (do eqGuard op xt ox oy u v; binOp op xt u v : Sem Value).run P w = .ok r w ∧ RepD P tb g w c r := by
  unfold evBin at h
  split at h
  · rename_i k a k' b
    cases hx; cases hy
    rename_i ha hb
    simp only [Sem.run_bind, eqGuard_int, Result.andThen_ok]
    split at h
    · exact evShift_sound h ha (.inl rfl)
    · exact evShift_sound h ha (.inr rfl)
    · by_cases e : k = k'
      · subst e
        simp only [decide_true, cond_true] at h
        exact evInt_sound h ha hb ⟨by assumption, by assumption⟩
      · simp [e] at h
  · cases hx; cases hy
    simp only [Sem.run_bind, eqGuard_str, Result.andThen_ok]
    exact evStr_sound h
  · rename_i a b
    cases hx; cases hy
    simp only [Sem.run_bind, eqGuard_bool, Result.andThen_ok]
    split at h
    · rename_i hu
      have he : ∀ a b : Bool, (Op.equal xt (.bool a) (.bool b)).run P w = .ok (decide (a = b)) w := fun a b => by
        rw [Op.equal, Op.maxDepth, run_equalIn_bool' _ _ _ _ _ hu]
        rfl
      split at h
      · simp only [Option.some.injEq] at h; subst h
        exact ⟨_, by simp [binOp, he], .bool _⟩
      · simp only [Option.some.injEq] at h; subst h
        exact ⟨_, by simp [binOp, he], .bool _⟩
      · cases h
    · cases h
  · rename_i xs ys
    obtain ⟨us, rfl, hxs⟩ := hx
    obtain ⟨vs, rfl, hys⟩ := hy
    have key : ∀ neg, evEq P neg xt xs ys some = some c → ∃ r : Bool, P.eqGuardType P.depth xt = false ∧ (Op.equalIn 10000 xt (.agg us.toArray) (.agg vs.toArray)).run P w = .ok r w ∧ c = .bool (bif neg then !r else r) := by
      intro neg h
      unfold evEq at h
      cases hg : P.eqGuardType P.depth xt with
      | true => simp [hg] at h
      | false =>
       cases hag : isAggB P xt with
       | false => simp [hg, hag] at h
       | true =>
        simp only [hg, hag, Bool.not_true, Bool.or_self, cond_false] at h
        cases hl : leaves P 20 xt with
        | none => simp [hl] at h
        | some ls =>
          cases h1 : cvs xs with
          | none => simp [hl, h1] at h
          | some cs =>
            cases h2 : cvs ys with
            | none => simp [hl, h1, h2] at h
            | some ds =>
              simp only [hl, h1, h2] at h
              obtain ⟨k1, k2⟩ := eqCells_spec h
              simp only [Option.some.injEq] at k2
              obtain ⟨b, hb, hb'⟩ := leaves_agg hl
              refine ⟨eqB cs ds, rfl, ?_, k2.symm⟩
              cases b with
              | true => exact run_equal_leaves 20 xt ls hl 10000 (by omega) cs ds us vs _ _ k1 (cvs_sound h1 hxs) (cvs_sound h2 hys) (.inl ⟨hb, rfl⟩) (.inl ⟨hb, rfl⟩)
              | false => 
                unfold isAggB at hag
                rw [hb] at hag; cases hag
    split at h
    · obtain ⟨r, hg, hr, rfl⟩ := key _ h
      refine ⟨.bool r, ?_, .bool _⟩
      simp only [Sem.run_bind, run_eqGuard_agg _ _ _ _ _ _ _ hg, Result.andThen_ok, run_eql_struct, hr]
    · obtain ⟨r, hg, hr, rfl⟩ := key _ h
      refine ⟨.bool (!r), ?_, .bool _⟩
      simp only [Sem.run_bind, run_eqGuard_agg _ _ _ _ _ _ _ hg, Result.andThen_ok, run_neq_struct, hr]
    · cases h
  · cases h

theorem evUn_sound {op : UnOp} {x : SV tb.T} {c : CV tb.T} {u : Value} (h : evUn op x some = some c) (hx : RepV P tb g w μ τ tok x u) :
    ∃ r, (Op.unary op u).run P w = .ok r w ∧ RepD P tb g w c r := by
  unfold evUn at h
  split at h
  · rename_i k a
    cases hx
    split at h
    · simp only [Option.some.injEq] at h; subst h
      exact ⟨_, by simp [Op.unary, Op.intArith], .int _ _ (wrap_inR _ _)⟩
    · simp only [Option.some.injEq] at h; subst h
      refine ⟨_, ?_, .int _ _ (wrap_inR _ _)⟩
      have : (if k.signed = true then (-1 : Int) else k.max) = bif k.signed then -1 else k.max := by cases k.signed <;> rfl
      simp only [Op.unary, Op.intBits, bitsOf, this, Sem.run_pure]
    · cases h
  · cases hx
    split at h
    · simp only [Option.some.injEq] at h; subst h
      exact ⟨_, by simp [Op.unary], .bool _⟩
    · cases h
  · cases h

/-! ## conversions -/
theorem sliceOf_sound {a : AC tb.T} {e : Nat} {xs : List (tb.T e)} {v : Value} (h : sliceOf tb a e = some xs) (hr : RepC P tb g w μ τ tok a v) : RepD P tb g w (.sl e xs) v := by
  unfold sliceOf at h
  split at h
  · simp only [Option.some.injEq] at h; subst h
    cases hr; exact .slnil e
  · rename_i e' ys
    by_cases he : e' = e
    · subst he; simp only [dite_true, Option.some.injEq] at h; subst h; exact hr
    · simp [he] at h
  · rename_i e' ys t
    by_cases he : e' = e
    · subst he; simp only [dite_true, Option.some.injEq] at h; subst h; exact hr.1
    · simp [he] at h
  · cases h

theorem b8_of {e : Nat} (h : e = tb.b8) {l : tb.T e = UInt8} (x : tb.T e) : tb.enc e x = [.int .u8 ((cast l x).toNat : Int)] := by
  subst h; exact tb.hbe x

/-- the cells of a slice that is read -/
theorem slice_cells {e : Nat} {xs : List (tb.T e)} {v : Value} (hr : RepD P tb g w (.sl e xs) v) :
    (∃ x cap, v = .slice x xs.length cap ∧ xs.length ≤ cap ∧ cap ≤ mxLen) ∧
    ((v = .slice none 0 0 ∨ ∃ x cap, v = .slice (some x) 0 cap ∧ cap ≤ mxLen) ∧ xs = [] ∨ ∃ b off cap, v = .slice (some ⟨b, off, none⟩) xs.length cap ∧ xs.length ≤ cap ∧ cap ≤ mxLen ∧
      (∀ (i : Nat) x, xs[i]? = some x → (tb.enc e x).length = P.cellsOf e) ∧ (0 < xs.length * P.cellsOf e → Fz g w b (off + xs.length * P.cellsOf e)) ∧
      ∃ val : Nat → Nat → Value, (∀ (i : Nat) x (j : Nat) c, xs[i]? = some x → (tb.enc e x)[j]? = some c → w.cell? ⟨b, off + i * P.cellsOf e + j, none⟩ = some (val i j)) ∧
        ∀ (i : Nat) x (j : Nat) c, xs[i]? = some x → (tb.enc e x)[j]? = some c → RepD P tb g w c (val i j)) := by
  cases hr with
  | slnil e => exact ⟨⟨none, 0, rfl, Nat.le_refl _, Nat.zero_le _⟩, .inl ⟨.inl rfl, rfl⟩⟩
  | sle e x cap h => exact ⟨⟨some x, cap, rfl, Nat.zero_le _, h⟩, .inl ⟨.inr ⟨x, cap, rfl, h⟩, rfl⟩⟩
  | sl e xs b off cap val h1 h2 h3 h4 h5 h6 => exact ⟨⟨_, cap, rfl, h1, h2⟩, .inr ⟨b, off, cap, rfl, h1, h2, h3, h4, val, h5, h6⟩⟩

theorem run_loadCellsL (a : Addr) (cs : List Value) (h : ∀ j v, cs[j]? = some v → w.cell? (a.add j) = some v) : (loadCells a cs.length).run P w = .ok cs.toArray w :=
  run_loadCells_list w a cs h

theorem fold_push (l : List UInt8) : ∀ acc : ByteArray, (l.map fun b => ((b.toNat : Int))).foldl (fun r n => r.push (UInt8.ofNat n.toNat)) acc = ⟨(acc.data.toList ++ l).toArray⟩ := by
  induction l with
  | nil => intro acc; simp
  | cons b l ih =>
    intro acc
    simp only [List.map_cons, List.foldl_cons]
    rw [ih]
    simp

theorem bytes_sound {e : Nat} (he : e = tb.b8) {xs : List (tb.T e)} {v : Value} (hr : RepD P tb g w (.sl e xs) v) (hl : tb.T e = UInt8) (ht : List (tb.T e) = List UInt8) :
    (Conv.bytesToString v).run P w = .ok (.string ⟨(cast ht xs).toArray⟩) w ∧ (cast ht xs).length ≤ mxLen := by
  have hc := (slice_cells hr).2
  have hget : ∀ i : Nat, (cast ht xs)[i]? = (xs[i]?).map (cast hl) := by
    clear hr hc
    revert xs
    generalize tb.T e = t at hl ht
    subst hl
    intro xs i
    show xs[i]? = (xs[i]?).map id
    simp
  have hlen : (cast ht xs).length = xs.length := by
    clear hr hc hget
    revert xs
    generalize tb.T e = t at hl ht
    subst hl
    intro xs; rfl
  rcases hc with ⟨hv, rfl⟩ | ⟨b, off, cap, rfl, h1, h2, h3, h4, val, h5, h6⟩
  · refine ⟨?_, by rw [hlen]; simp [mxLen]⟩
    have : cast ht ([] : List (tb.T e)) = [] := List.eq_nil_of_length_eq_zero (by rw [hlen]; rfl)
    rw [this]
    rcases hv with rfl | ⟨x, cap, rfl, _⟩
    · simp [Conv.bytesToString]
      rfl
    · exact run_bytesToString w x 0 cap [] (run_loadCellsL (P := P) (w := w) x [] (by simp))
  · refine ⟨?_, by rw [hlen]; omega⟩
    have hsz : ∀ i x, xs[i]? = some x → P.cellsOf e = 1 := fun i x hx => by
      rw [← h3 i x hx, b8_of he (l := hl) x]; rfl
    have hcell : ∀ (i : Nat) x, xs[i]? = some x → w.cell? ⟨b, off + i, none⟩ = some (.int .u8 ((cast hl x).toNat : Int)) := fun i x hx => by
      have he' := b8_of he (l := hl) x
      have k5 := h5 i x 0 _ hx (by rw [he']; rfl)
      have k6 := h6 i x 0 _ hx (by rw [he']; rfl)
      rw [hsz i x hx, Nat.mul_one, Nat.add_zero] at k5
      rw [k5]
      generalize val i 0 = z at *
      cases k6; rfl
    have hload := run_loadCellsL (P := P) (w := w) ⟨b, off, none⟩ (((cast ht xs).map fun b => ((b.toNat : Int))).map (Value.int .u8)) (fun j v hv => by
      rw [addr_add]
      simp only [List.getElem?_map, hget] at hv
      cases hx : xs[j]? with
      | none => simp [hx] at hv
      | some x => simp [hx] at hv; subst hv; exact hcell j x hx)
    have hll : (((cast ht xs).map fun b => ((b.toNat : Int))).map (Value.int .u8)).length = xs.length := by simp [hlen]
    rw [hll] at hload
    rw [run_bytesToString w _ _ _ _ hload, fold_push]
    rfl

theorem utf8_len (n : Int) : (utf8 n).length ≤ mxLen := by
  unfold utf8 Utf8.encode mxLen
  simp only []
  repeat' split
  all_goals simp

theorem evConv_sound {src dst : Nat} {x : SV tb.T} {c : CV tb.T} {u : Value} (h : evConv P tb src dst x some = some c) (hx : RepV P tb g w μ τ tok x u) :
    ∃ r, (convert src dst u).run P w = .ok r w ∧ RepD P tb g w c r := by
  unfold evConv at h
  split at h
  · rename_i us k k0 n hs hd
    cases hx
    rename_i hn
    by_cases e : k0 = k
    · subst e
      simp only [decide_true, cond_true, Option.some.injEq] at h; subst h
      refine ⟨_, by simp [convert, run_underlying hs, run_underlying hd, Conv.intToInt]; rfl, ?_⟩
      rw [wrap_of_inR hn]; exact .int _ _ hn
    · simp only [e, decide_false, cond_false, Option.some.injEq] at h; subst h
      exact ⟨_, by simp [convert, run_underlying hs, run_underlying hd, Conv.intToInt], .int _ _ (wrap_inR _ _)⟩
  · rename_i ks n hs hd
    cases hx
    simp only [Option.some.injEq] at h; subst h
    refine ⟨.string ⟨(utf8 n).toArray⟩, ?_, .str _ (utf8_len n)⟩
    rename_i k _ _
    simp only [convert, Sem.run_bind, run_underlying hs, run_underlying hd, Result.andThen_ok, Conv.intToString, Sem.run_pure]
    congr 2
  · rename_i s hs hd
    cases hx
    rename_i hl
    simp only [Option.some.injEq] at h; subst h
    exact ⟨_, by simp [convert, run_underlying hs, run_underlying hd], .str _ hl⟩
  · rename_i e a hs hd
    split at h
    · rename_i he
      have hx' : RepC P tb g w μ τ tok a u := hx
      split at h
      · rename_i hcv
        simp only [Option.some.injEq] at h; subst h
        have := cv_sound hcv hx'
        cases this
        refine ⟨.string ⟨([] : List UInt8).toArray⟩, ?_, .str _ (by simp [mxLen])⟩
        rw [run_convert_bytes_string _ _ _ _ _ _ _ hs he hd]
        simp [Conv.bytesToString]; rfl
      · rename_i e' xs hcv
        by_cases he' : e' = tb.b8
        · simp only [he', dite_true, Option.some.injEq] at h; subst h
          have hr := cv_sound hcv hx'
          obtain ⟨⟨x, cap, rfl, _, _⟩, _⟩ := slice_cells hr
          obtain ⟨k1, k2⟩ := bytes_sound he' hr (by rw [he', tb.hb]) (by rw [he', tb.hb])
          exact ⟨_, by rw [run_convert_bytes_string _ _ _ _ _ _ _ hs he hd]; exact k1, .str _ k2⟩
        · simp [he'] at h
      · cases h
    · cases h
  · cases h

end Go.Ev
