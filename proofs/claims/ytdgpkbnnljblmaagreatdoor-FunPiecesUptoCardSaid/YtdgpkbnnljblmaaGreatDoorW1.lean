/- W1 -/
import Derived.Test.YtdgpkbnnljblmaaGreatDoorEvC
import Derived.Shelf.Strings.BuilderK
namespace Go.Ev
open Go Go.Proofs Go.Shelf Go.RowKit
variable {P : Program} {ρ : Ren} {tb : Tab}
abbrev bldPat (T : Nat) : Pat := .box (1048576 * (T + 1) + 2)
theorem bldPat_n (T : Nat) : bldB (1048576 * (T + 1) + 2) = true ∧ boxN (1048576 * (T + 1) + 2) = 2 ∧ boxT (1048576 * (T + 1) + 2) = T := by
  refine ⟨?_, ?_, ?_⟩
  · unfold bldB; exact Nat.ble_eq_true_of_le (by omega)
  · unfold boxN; omega
  · unfold boxT; omega
def copyCheckS (tb : Tab) (T tu : Nat) : FSpec tb := ⟨[(8589934592, .own tu), (0, bldPat T)], [(8589967360, .own tu)], fun x => some (x.1, ())⟩
theorem copyCheck_keeps {tu : Nat} (L : Lays.n240 P ρ) (X : Builder.X72 P ρ) : FnKeeps P tb (ρ.f 240) (copyCheckS tb (ρ.t 72) tu) := by
  intro g w x vs bs y hy _ hat hh hnd
  obtain ⟨xs, x2⟩ := x
  have hy : some ((xs, ()) : List (tb.T tu) × Unit) = some y := hy
  injection hy with hy
  subst hy
  cases vs with
  | nil => exact hh.elim
  | cons vb vs =>
  cases bs with
  | nil => exact hh.elim
  | cons b0 bs =>
  obtain ⟨⟨hrb, hown⟩, hh⟩ := hh
  cases vs with
  | nil => exact hh.elim
  | cons v vs =>
  cases vs with
  | cons _ _ => cases bs <;> exact hh.elim
  | nil =>
  cases bs with
  | nil => exact hh.elim
  | cons b bs =>
  cases bs with
  | cons _ _ => exact hh.elim
  | nil =>
  obtain ⟨k, rfl, rfl, hk, hg, us, el, fz, h1, h2, h3, h4, h5⟩ := hh
  obtain ⟨n1, n2, n3⟩ := bldPat_n (ρ.t 72)
  obtain ⟨h6, u, h7, h8⟩ := h5 n1
  rw [n3] at h6; rw [n2] at h3
  obtain ⟨hat1, _, _⟩ := hat
  have hr : realVals (copyCheckS tb (ρ.t 72) tu).ins [vb, Value.pointer (some ⟨k, 0, none⟩)] = [.pointer (some ⟨k, 0, none⟩)] := rfl
  have hvb : us[1]? = some vb := by
    rw [hr] at hat1
    unfold vval at hat1
    rw [if_neg (show ¬ (8589934592 : Nat) < 4294967296 by decide)] at hat1
    simpa [h1] using hat1
  have c0 : w.cell? ⟨k, 0, none⟩ = some u := by simp [World.cell?, h1, ← Array.getElem?_toList, h7]
  have hent : ∀ args w, (callFunc (ρ.f 240) args).run P w = .ok (.enter (ρ.f 240) args) w := Go.Proofs.enters_of L.f240 (by kernel_rfl) rfl
  refine .inl ⟨hent _ _, ?_⟩
  show Calls P (ρ.f 240) #[.pointer (some ⟨k, 0, none⟩)] w _
  have hb0 : ∀ q, b0 = some q → q ≠ k ∧ q < w.heap.size := fun q hq => by
    rcases hown with ⟨_, h, _⟩ | ⟨q', off, cap, cells, el2, fz2, e1, _, e3, e4, _⟩
    · rw [hq] at h; cases h
    · rw [hq] at e1; injection e1 with e1; subst e1
      exact ⟨fun e => (by subst e; rw [hg] at e3; cases e3), (Array.getElem?_eq_some_iff.1 e4).1⟩
  have fin : ∀ w' us', Ext g w g w' (fun b => b = k) → w'.heap[k]? = some (.cells us' el fz) → us'[1]? = some vb → BoxAt w' (1048576 * (ρ.t 72 + 1) + 2) k → ∃ v us cs g', (Ending.returned (.tuple #[])) = .returned v ∧ RetV (reals (copyCheckS tb (ρ.t 72) tu).outs) (realVals (copyCheckS tb (ρ.t 72) tu).outs us) v ∧
      At w' (outAt (realVals (copyCheckS tb (ρ.t 72) tu).outs us) (realVals (copyCheckS tb (ρ.t 72) tu).ins [vb, Value.pointer (some ⟨k, 0, none⟩)])) (copyCheckS tb (ρ.t 72) tu).outs us ∧
      Left P tb g w (copyCheckS tb (ρ.t 72) tu).ins (copyCheckS tb (ρ.t 72) tu).outs [vb, Value.pointer (some ⟨k, 0, none⟩)] [b0, some k] (xs, ()) us cs g' w' := fun w' us' he hw1 hu1 hb => by
    have hk' : Keeps g w g w' := he.keeps
    have hown' : OwnAt P g w' b0 tu xs.length vb := by
      rcases hown with ⟨e1, e2, e3⟩ | ⟨q', off, cap, cells, el2, fz2, e1, e2, e3, e4, e5⟩
      · exact .inl ⟨e1, e2, e3⟩
      · obtain ⟨hne, hlt⟩ := hb0 _ e1
        exact .inr ⟨q', off, cap, cells, el2, fz2, e1, e2, e3, ((he.keep _ hlt hne).1).trans e4, e5⟩
    refine ⟨.tuple #[], [vb], [b0], g, rfl, rfl, ⟨?_, trivial⟩, he.mono fun b _ e => ?_, ⟨hrb.mono hk', hown'⟩, ⟨k, rfl, rfl, Nat.lt_of_lt_of_le hk he.size, hg, hb⟩, ?_, fun q hq => ?_⟩
    · show vval w' _ 8589967360 = some vb
      unfold vval
      rw [if_neg (show ¬ (8589967360 : Nat) < 4294967296 by decide), show outAt (realVals (copyCheckS tb (ρ.t 72) tu).outs [vb]) (realVals (copyCheckS tb (ρ.t 72) tu).ins [vb, Value.pointer (some ⟨k, 0, none⟩)]) (8589967360 % 4294967296) = some (.pointer (some ⟨k, 0, none⟩)) from rfl]
      simp only [hw1]
      exact hu1
    · show b ∈ b0.toList ++ ([k] ++ [])
      simp [e]
    · unfold blocksOf; cases b0 <;> simp
    · have hq' : b0 = some q := by
        unfold blocksOf at hq
        cases b0 with
        | none => simp at hq
        | some q' => simp at hq; rw [hq]
      refine ⟨.inr ?_, ?_⟩
      · show q ∈ b0.toList ++ ([k] ++ [])
        simp [hq']
      · show q ∉ blocksOf [some k]
        simpa [blocksOf] using (hb0 q hq').1
  rcases h8 with rfl | rfl
  · have hsh : w.shape? k = some (ρ.t 72, 2) := by simp [World.shape?, h1, h6, h3]
    have hfz : w.frozen? ⟨k, 0, none⟩ = false := by
      have := h2 0 (by omega)
      simp only [World.frozen?, h1]
      simpa using this
    refine (Any.Builder_copyCheck_fresh L X k w c0 hsh hfz).mono ?_
    rintro r w' ⟨rfl, rfl⟩
    have hset : (w.setCell ⟨k, 0, none⟩ (.pointer (some ⟨k, 0, none⟩))).heap[k]? = some (.cells (us.setIfInBounds 0 (.pointer (some ⟨k, 0, none⟩))) el fz) := by
      simp only [World.setCell, Array.getElem?_modify, h1, if_true, Option.map_some]
      rfl
    have hone : OneBlock w (w.setCell ⟨k, 0, none⟩ (.pointer (some ⟨k, 0, none⟩))) k (.cells (us.setIfInBounds 0 (.pointer (some ⟨k, 0, none⟩))) el fz) :=
      ⟨rfl, rfl, rfl, by simp [World.setCell], hset, fun b hb => Below.heap_setCell _ _ _ _ (fun e => hb e)⟩
    refine fin _ _ (Ext.var1 hone hg fun us2 T fz2 e => ?_) hset (by rw [Array.getElem?_setIfInBounds_ne (by decide)]; exact hvb) ⟨_, el, fz, hset, fun j hj => h2 j (by simpa using hj), by simpa [n2] using h3, fun v hv => ?_, fun _ => ⟨by rw [n3]; exact h6, .pointer (some ⟨k, 0, none⟩), ?_, .inr rfl⟩⟩
    · rw [h1] at e; injection e with e; injection e with e1 e2 _; exact ⟨_, fz, by rw [e2], by simp [e1]⟩
    · rw [Array.toList_setIfInBounds] at hv
      rcases List.mem_or_eq_of_mem_set hv with hv | rfl
      · exact h4 v hv
      · rfl
    · rw [Array.toList_setIfInBounds, List.getElem?_set_self (by simp; omega)]
  · refine (Any.Builder_copyCheck_used L X k w c0).mono ?_
    rintro r w' ⟨rfl, rfl⟩
    exact fin _ us (Ext.refl g w' _) h1 hvb ⟨us, el, fz, h1, h2, by rw [n2]; exact h3, h4, h5⟩
section
variable {w : World}
set_option maxHeartbeats 2000000 in
set_option maxRecDepth 100000 in
theorem bldString_nil (L : Lays.n169 P ρ) (X : Builder.Extra P ρ) (b : Nat) (c0 : w.cell? ⟨b, 1, none⟩ = some (.slice none 0 0)) :
    Calls P (ρ.f 169) #[.pointer (some ⟨b, 0, none⟩)] w fun e w' => e = .returned (.string ⟨#[]⟩) ∧ w' = w.drew := by
  have hUS := Any.unsafeString_none L X
  have c1 : w.drew.cell? ⟨b, 1, none⟩ = some (.slice none 0 0) := c0
  have hSD : (Builtin.unsafeSliceData_ #[(ρ.t 37)] (ρ.t 127) #[.slice none 0 0]).run P w.drew = .ok (.pointer none) w.drew := rfl
  have mixed := L.mixed
  have t72 := L.t72; have a72 := L.a72; have z72 := L.z72; have v72 := L.v72; have u72 := run_underlying L.t72
  have t70 := L.t70; have a70 := L.a70; have z70 := L.z70; have v70 := L.v70; have u70 := run_underlying L.t70
  have t37 := L.t37; have a37 := L.a37; have z37 := L.z37; have v37 := L.v37; have u37 := run_underlying L.t37
  have t127 := L.t127; have a127 := L.a127; have z127 := L.z127; have v127 := L.v127; have u127 := run_underlying L.t127
  have t3 := L.t3; have a3 := L.a3; have z3 := L.z3; have v3 := L.v3; have u3 := run_underlying L.t3
  have t9 := L.t9; have a9 := L.a9; have z9 := L.z9; have v9 := L.v9; have u9 := run_underlying L.t9
  have t5 := X.t5; have a5 := X.a5; have z5 := X.z5; have v5 := X.v5; have u5 := run_underlying X.t5
  go_enter L.f169, Body.n169_ntmps ρ
  go_wp2
  go_region_o
  all_goals (go_wp2; go_ret; exact ⟨rfl, rfl⟩)
set_option maxHeartbeats 2000000 in
set_option maxRecDepth 100000 in
theorem bldString_noroom (L : Lays.n169 P ρ) (X : Builder.Extra P ρ) (b g : Nat) (hb : b < w.heap.size) (c0 : w.cell? ⟨b, 1, none⟩ = some (.slice (some ⟨g, 0, none⟩) 0 0)) {cur : Array Value} {fz : Nat × Nat} (hg : w.heap[g]? = some (.cells cur (ρ.t 5) fz)) :
    Calls P (ρ.f 169) #[.pointer (some ⟨b, 0, none⟩)] w fun e w' => e = .returned (.string ⟨#[]⟩) ∧ w' = (w.alloc (.view ⟨g, 0, none⟩ (ρ.t 5))).drew := by
  have hUS := Any.unsafeString_none L X
  have c1 : w.drew.cell? ⟨b, 1, none⟩ = some (.slice (some ⟨g, 0, none⟩) 0 0) := c0
  have hSD : (Builtin.unsafeSliceData_ #[(ρ.t 37)] (ρ.t 127) #[.slice (some ⟨g, 0, none⟩) 0 0]).run P w.drew = .ok (.pointer (some ⟨w.drew.heap.size, 0, none⟩)) (w.drew.alloc (.view ⟨g, 0, none⟩ (ρ.t 5))) :=
    Lib.run_unsafeSliceData_zero w.drew _ _ (ρ.t 5) L.t127 ⟨g, 0, none⟩ 0 ((ρ.t 5), cur.size) (by have hg' : w.drew.heap[g]? = some (.cells cur (ρ.t 5) fz) := hg; simp [World.shape?, hg'])
  have c2 : (w.drew.alloc (.view ⟨g, 0, none⟩ (ρ.t 5))).cell? ⟨b, 1, none⟩ = some (.slice (some ⟨g, 0, none⟩) 0 0) := by
    rw [← c1]
    exact cell_of_block (Lib.alloc_old w.drew _ b hb)
  have c3 : (w.alloc (.view ⟨g, 0, none⟩ (ρ.t 5))).drew.cell? ⟨b, 1, none⟩ = some (.slice (some ⟨g, 0, none⟩) 0 0) := c2
  have mixed := L.mixed
  have t72 := L.t72; have a72 := L.a72; have z72 := L.z72; have v72 := L.v72; have u72 := run_underlying L.t72
  have t70 := L.t70; have a70 := L.a70; have z70 := L.z70; have v70 := L.v70; have u70 := run_underlying L.t70
  have t37 := L.t37; have a37 := L.a37; have z37 := L.z37; have v37 := L.v37; have u37 := run_underlying L.t37
  have t127 := L.t127; have a127 := L.a127; have z127 := L.z127; have v127 := L.v127; have u127 := run_underlying L.t127
  have t3 := L.t3; have a3 := L.a3; have z3 := L.z3; have v3 := L.v3; have u3 := run_underlying L.t3
  have t9 := L.t9; have a9 := L.a9; have z9 := L.z9; have v9 := L.v9; have u9 := run_underlying L.t9
  have t5 := X.t5; have a5 := X.a5; have z5 := X.z5; have v5 := X.v5; have u5 := run_underlying X.t5
  go_enter L.f169, Body.n169_ntmps ρ
  go_wp2
  go_region_o
  all_goals (go_wp2; go_ret; exact ⟨rfl, rfl⟩)
set_option maxHeartbeats 2000000 in
set_option maxRecDepth 100000 in
theorem bldString_room (L : Lays.n169 P ρ) (X : Builder.Extra P ρ) (b g cap : Nat) (hc0 : cap ≠ 0) (c0 : w.cell? ⟨b, 1, none⟩ = some (.slice (some ⟨g, 0, none⟩) 0 cap)) :
    Calls P (ρ.f 169) #[.pointer (some ⟨b, 0, none⟩)] w fun e w' => e = .returned (.string ⟨#[]⟩) ∧ w' = w.drew := by
  have hUS := Any.unsafeString_none L X
  have c1 : w.drew.cell? ⟨b, 1, none⟩ = some (.slice (some ⟨g, 0, none⟩) 0 cap) := c0
  have hSD : (Builtin.unsafeSliceData_ #[(ρ.t 37)] (ρ.t 127) #[.slice (some ⟨g, 0, none⟩) 0 cap]).run P w.drew = .ok (.pointer (some ⟨g, 0, none⟩)) w.drew :=
    Lib.run_unsafeSliceData_row _ _ _ _ _ _ hc0
  clear hc0
  have mixed := L.mixed
  have t72 := L.t72; have a72 := L.a72; have z72 := L.z72; have v72 := L.v72; have u72 := run_underlying L.t72
  have t70 := L.t70; have a70 := L.a70; have z70 := L.z70; have v70 := L.v70; have u70 := run_underlying L.t70
  have t37 := L.t37; have a37 := L.a37; have z37 := L.z37; have v37 := L.v37; have u37 := run_underlying L.t37
  have t127 := L.t127; have a127 := L.a127; have z127 := L.z127; have v127 := L.v127; have u127 := run_underlying L.t127
  have t3 := L.t3; have a3 := L.a3; have z3 := L.z3; have v3 := L.v3; have u3 := run_underlying L.t3
  have t9 := L.t9; have a9 := L.a9; have z9 := L.z9; have v9 := L.v9; have u9 := run_underlying L.t9
  have t5 := X.t5; have a5 := X.a5; have z5 := X.z5; have v5 := X.v5; have u5 := run_underlying X.t5
  go_enter L.f169, Body.n169_ntmps ρ
  go_wp2
  go_region_o
  all_goals (go_wp2; go_ret; exact ⟨rfl, rfl⟩)
set_option maxHeartbeats 2000000 in
set_option maxRecDepth 100000 in
theorem bldString_some (L : Lays.n169 P ρ) (X : Builder.Extra P ρ) (b g cap : Nat) (l : List UInt8) (h0 : l ≠ []) (hlc : l.length ≤ cap) (hm : l.length ≤ 9223372036854775807) (c0 : w.cell? ⟨b, 1, none⟩ = some (.slice (some ⟨g, 0, none⟩) l.length cap))
    {cur : Array Value} {fz : Nat × Nat} (hg : w.heap[g]? = some (.cells cur (ρ.t 5) fz)) (hn : l.length ≤ cur.size) (hcell : ∀ j x, l[j]? = some x → w.cell? ((⟨g, 0, none⟩ : Addr).add j) = some (.int .u8 x.toNat)) :
    Calls P (ρ.f 169) #[.pointer (some ⟨b, 0, none⟩)] w fun e w' => e = .returned (.string ⟨l.toArray⟩) ∧ w' = w.drew.freeze ⟨g, 0, none⟩ l.length := by
  have hl0 : l.length ≠ 0 := by simpa using h0
  have c1 : w.drew.cell? ⟨b, 1, none⟩ = some (.slice (some ⟨g, 0, none⟩) l.length cap) := c0
  have hSD : (Builtin.unsafeSliceData_ #[(ρ.t 37)] (ρ.t 127) #[.slice (some ⟨g, 0, none⟩) l.length cap]).run P w.drew = .ok (.pointer (some ⟨g, 0, none⟩)) w.drew :=
    Lib.run_unsafeSliceData_row _ _ _ _ _ _ (by omega)
  have hUS : (Builtin.unsafeString_ #[(ρ.t 127), (ρ.t 3)] (ρ.t 9) #[.pointer (some ⟨g, 0, none⟩), .int .i64 l.length]).run P w.drew = .ok (.string ⟨l.toArray⟩) (w.drew.freeze ⟨g, 0, none⟩ l.length) :=
    Lib.run_unsafeString_row w.drew (ρ.t 127) (ρ.t 3) (ρ.t 9) (ρ.t 5) L.t127 X.cellsByte g cur.size (by have hg' : w.drew.heap[g]? = some (.cells cur (ρ.t 5) fz) := hg; simp [World.shape?, hg']) l h0 hn hm hcell
  have mixed := L.mixed
  have t72 := L.t72; have a72 := L.a72; have z72 := L.z72; have v72 := L.v72; have u72 := run_underlying L.t72
  have t70 := L.t70; have a70 := L.a70; have z70 := L.z70; have v70 := L.v70; have u70 := run_underlying L.t70
  have t37 := L.t37; have a37 := L.a37; have z37 := L.z37; have v37 := L.v37; have u37 := run_underlying L.t37
  have t127 := L.t127; have a127 := L.a127; have z127 := L.z127; have v127 := L.v127; have u127 := run_underlying L.t127
  have t3 := L.t3; have a3 := L.a3; have z3 := L.z3; have v3 := L.v3; have u3 := run_underlying L.t3
  have t9 := L.t9; have a9 := L.a9; have z9 := L.z9; have v9 := L.v9; have u9 := run_underlying L.t9
  have t5 := X.t5; have a5 := X.a5; have z5 := X.z5; have v5 := X.v5; have u5 := run_underlying X.t5
  go_enter L.f169, Body.n169_ntmps ρ
  go_wp2
  go_region_o
  all_goals (go_wp2; go_ret; exact ⟨rfl, rfl⟩)
end
def strS (tb : Tab) (T tu ts : Nat) (f : List (tb.T tu) → tb.T ts) : FSpec tb := ⟨[(8589934592, .own tu), (0, bldPat T)], [(0, .val ts)], fun x => some (f x.1, ())⟩
def IsStr (tb : Tab) (tu ts : Nat) (f : List (tb.T tu) → tb.T ts) : Prop :=
  ∀ xs, ∃ l : List UInt8, tb.enc ts (f xs) = [.str l] ∧ l.length = xs.length ∧ ∀ (i : Nat) x, xs[i]? = some x → ∃ b : UInt8, l[i]? = some b ∧ tb.enc tu x = [.int .u8 (b.toNat : Int)]
theorem freeze_new {w : World} {k n : Nat} {cur : Array Value} {el : Nat} {fz : Nat × Nat} (hn : n ≠ 0) (hk : w.heap[k]? = some (.cells cur el fz)) : ∃ fz', (w.drew.freeze ⟨k, 0, none⟩ n).heap[k]? = some (.cells cur el fz') := by
  have : w.drew.heap[k]? = some (.cells cur el fz) := hk
  simp only [World.freeze, if_neg hn, Array.getElem?_modify, this, if_true, Option.map_some]
  exact ⟨_, rfl⟩
theorem freeze_old {w : World} {k n b : Nat} (hn : n ≠ 0) (hb : b ≠ k) : (w.drew.freeze ⟨k, 0, none⟩ n).heap[b]? = w.heap[b]? := by
  have : ¬ k = b := fun e => hb e.symm
  simp only [World.freeze, if_neg hn, Array.getElem?_modify, this, if_false]
  rfl
theorem Ext.freeze {g : Gh} {w : World} {k n m : Nat} {cur : Array Value} {el : Nat} {fz : Nat × Nat} (hn : n ≠ 0) (hk : w.heap[k]? = some (.cells cur el fz)) (hg : g k = .ar m) :
    Ext g w g (w.drew.freeze ⟨k, 0, none⟩ n) (fun b => b = k) := by
  obtain ⟨fz', hnew⟩ := freeze_new hn hk
  have hcell : ∀ i, (w.drew.freeze ⟨k, 0, none⟩ n).cell? ⟨k, i, none⟩ = w.cell? ⟨k, i, none⟩ := fun i => by simp [World.cell?, hnew, hk]
  have hw : (w.drew.freeze ⟨k, 0, none⟩ n).os = w.os ∧ (w.drew.freeze ⟨k, 0, none⟩ n).tape = w.tape ∧ (w.drew.freeze ⟨k, 0, none⟩ n).output = w.output ∧ (w.drew.freeze ⟨k, 0, none⟩ n).heap.size = w.heap.size := by
    unfold World.freeze
    rw [if_neg hn]
    exact ⟨rfl, rfl, rfl, Array.size_modify ..⟩
  refine ⟨hw.1, hw.2.1, hw.2.2.1, Nat.le_of_eq hw.2.2.2.symm, fun b _ hb => ⟨freeze_old hn hb, rfl⟩, fun b _ hb => ⟨freeze_old hn (fun e => by subst e; rw [hg] at hb; cases hb), hb⟩, fun b n' _ hb => ⟨n', Nat.le_refl _, hb, fun i _ => ?_⟩, ?_⟩
  · by_cases e : b = k
    · subst e; exact hcell i
    · exact cell_of_block (freeze_old hn e)
  · exact Shp.one (fun b _ hb => freeze_old hn hb) (fun us T fz2 e => by rw [hk] at e; injection e with e; injection e with e1 e2 _; exact ⟨cur, fz', by rw [hnew, e2], by rw [e1]⟩)
theorem sl_short {g : Gh} {w : World} {e : Nat} {xs : List (tb.T e)} {v : Value} (h : RepD P tb g w (.sl e xs) v) : xs.length ≤ mxLen := by
  cases h with
  | slnil => exact Nat.zero_le _
  | sle => exact Nat.zero_le _
  | sl _ _ b off cap val h1 h2 => exact Nat.le_trans h1 h2
theorem sl_byte {g : Gh} {w : World} {e q n cap : Nat} {xs : List (tb.T e)} (h : RepD P tb g w (.sl e xs) (.slice (some ⟨q, 0, none⟩) n cap)) (h1 : P.cellsOf e = 1) {j : Nat} {x : tb.T e} {c : CV tb.T} (hx : xs[j]? = some x) (hc : tb.enc e x = [c]) :
    ∃ u, w.cell? ⟨q, j, none⟩ = some u ∧ RepD P tb g w c u := by
  cases h with
  | sle => simp at hx
  | sl _ _ _ _ _ val _ _ _ _ h5 h6 =>
    have g1 := h5 j x 0 c hx (by rw [hc]; rfl)
    rw [h1] at g1
    exact ⟨_, by simpa using g1, h6 j x 0 c hx (by rw [hc]; rfl)⟩
theorem string_keeps (L : Lays.n169 P ρ) (X : Builder.Extra P ρ) {f : List (tb.T (ρ.t 5)) → tb.T (ρ.t 9)} (hf : IsStr tb (ρ.t 5) (ρ.t 9) f) (h9 : isAggB P (ρ.t 9) = false) : FnKeeps P tb (ρ.f 169) (strS tb (ρ.t 72) (ρ.t 5) (ρ.t 9) f) := by
  intro g w x vs bs y hy _ hat hh hnd
  obtain ⟨xs, x2⟩ := x
  have hy : some ((f xs, ()) : tb.T (ρ.t 9) × Unit) = some y := hy
  injection hy with hy
  subst hy
  cases vs with
  | nil => exact hh.elim
  | cons vb vs =>
  cases bs with
  | nil => exact hh.elim
  | cons b0 bs =>
  obtain ⟨⟨hrb, hown⟩, hh⟩ := hh
  cases vs with
  | nil => exact hh.elim
  | cons v vs =>
  cases vs with
  | cons _ _ => cases bs <;> exact hh.elim
  | nil =>
  cases bs with
  | nil => exact hh.elim
  | cons b bs =>
  cases bs with
  | cons _ _ => exact hh.elim
  | nil =>
  obtain ⟨k, rfl, rfl, hk, hg, hbox⟩ := hh
  obtain ⟨us, el, fz, h1, h2, h3, h4, h5⟩ := hbox
  obtain ⟨hat1, _, _⟩ := hat
  have hr : realVals (strS tb (ρ.t 72) (ρ.t 5) (ρ.t 9) f).ins [vb, Value.pointer (some ⟨k, 0, none⟩)] = [.pointer (some ⟨k, 0, none⟩)] := rfl
  have hvb : us[1]? = some vb := by
    rw [hr] at hat1
    unfold vval at hat1
    rw [if_neg (show ¬ (8589934592 : Nat) < 4294967296 by decide)] at hat1
    simpa [h1] using hat1
  have c1 : w.cell? ⟨k, 1, none⟩ = some vb := by simp [World.cell?, h1, hvb]
  have hent : ∀ args w, (callFunc (ρ.f 169) args).run P w = .ok (.enter (ρ.f 169) args) w := Go.Proofs.enters_of L.f169 (by kernel_rfl) rfl
  refine .inl ⟨hent _ _, ?_⟩
  show Calls P (ρ.f 169) #[.pointer (some ⟨k, 0, none⟩)] w _
  obtain ⟨l, l1, l2, l3⟩ := hf xs
  have hll : l.length ≤ mxLen := by rw [l2]; exact sl_short hrb
  have fin : ∀ w', Ext g w g w' (fun b => b ∈ b0.toList) ∨ (∃ g', Ext g w g' w' (fun b => b ∈ b0.toList) ∧ g' k = .var) → w'.heap[k]? = w.heap[k]? → ∃ v us cs g', (Ending.returned (.string ⟨l.toArray⟩)) = .returned v ∧ RetV (reals (strS tb (ρ.t 72) (ρ.t 5) (ρ.t 9) f).outs) (realVals (strS tb (ρ.t 72) (ρ.t 5) (ρ.t 9) f).outs us) v ∧
      At w' (outAt (realVals (strS tb (ρ.t 72) (ρ.t 5) (ρ.t 9) f).outs us) (realVals (strS tb (ρ.t 72) (ρ.t 5) (ρ.t 9) f).ins [vb, Value.pointer (some ⟨k, 0, none⟩)])) (strS tb (ρ.t 72) (ρ.t 5) (ρ.t 9) f).outs us ∧
      Left P tb g w (strS tb (ρ.t 72) (ρ.t 5) (ρ.t 9) f).ins (strS tb (ρ.t 72) (ρ.t 5) (ρ.t 9) f).outs [vb, Value.pointer (some ⟨k, 0, none⟩)] [b0, some k] (f xs, ()) us cs g' w' := fun w' he hb => by
    obtain ⟨g', he, hg'⟩ : ∃ g', Ext g w g' w' (fun b => b ∈ b0.toList) ∧ g' k = .var := by
      rcases he with he | he
      · exact ⟨g, he, hg⟩
      · exact he
    have hfx : HoldsV P tb g' w' (ρ.t 9) (f xs) (.string ⟨l.toArray⟩) := by
      unfold HoldsV
      simp only [h9, Bool.false_eq_true, if_false]
      exact ⟨_, l1, .str l hll⟩
    refine ⟨.string ⟨l.toArray⟩, [.string ⟨l.toArray⟩], [none], g', rfl, rfl, ⟨rfl, trivial⟩, he.mono fun b _ e => ?_, ⟨hfx, rfl⟩, ⟨k, rfl, rfl, Nat.lt_of_lt_of_le hk he.size, hg', us, el, fz, hb.trans h1, h2, h3, h4, h5⟩, List.nodup_nil, by simp [blocksOf]⟩
    show b ∈ b0.toList ++ ([k] ++ [])
    exact List.mem_append_left _ e
  have hdrew : ∀ {e w'}, l = [] → (e = Ending.returned (.string ⟨#[]⟩) ∧ w' = w.drew) → ∃ v us cs g', e = .returned v ∧ RetV (reals (strS tb (ρ.t 72) (ρ.t 5) (ρ.t 9) f).outs) (realVals (strS tb (ρ.t 72) (ρ.t 5) (ρ.t 9) f).outs us) v ∧
      At w' (outAt (realVals (strS tb (ρ.t 72) (ρ.t 5) (ρ.t 9) f).outs us) (realVals (strS tb (ρ.t 72) (ρ.t 5) (ρ.t 9) f).ins [vb, Value.pointer (some ⟨k, 0, none⟩)])) (strS tb (ρ.t 72) (ρ.t 5) (ρ.t 9) f).outs us ∧
      Left P tb g w (strS tb (ρ.t 72) (ρ.t 5) (ρ.t 9) f).ins (strS tb (ρ.t 72) (ρ.t 5) (ρ.t 9) f).outs [vb, Value.pointer (some ⟨k, 0, none⟩)] [b0, some k] (f xs, ()) us cs g' w' := by
    rintro e w' hl ⟨rfl, rfl⟩
    have := fin w.drew (.inl ⟨rfl, rfl, rfl, Nat.le_refl _, fun _ _ _ => ⟨rfl, rfl⟩, fun _ _ h => ⟨rfl, h⟩, fun _ n _ h => ⟨n, Nat.le_refl _, h, fun _ _ => rfl⟩, Shp.old fun _ _ => rfl⟩) rfl
    rwa [hl] at this
  rcases hown with ⟨rfl, rfl, hl0⟩ | ⟨q, off, cap, cells, el2, fz2, rfl, rfl, hgq, hq, hcs, hlc, hfr, rfl, rfl⟩
  · have hl : l = [] := List.length_eq_zero_iff.1 (by rw [l2]; exact hl0)
    exact (bldString_nil L X k c1).mono fun e w' h => hdrew hl h
  · by_cases hl : l = []
    · have hx0 : xs.length = 0 := by rw [← l2, hl]; rfl
      rw [hx0] at c1
      by_cases hc0 : cap = 0
      · subst hc0
        refine (bldString_noroom L X k q hk c1 hq).mono ?_
        rintro e w' ⟨rfl, rfl⟩
        have hext := Ext.push g w (.view ⟨q, 0, none⟩ (ρ.t 5)) .con (fun b => b ∈ (some q).toList)
        have := fin (w.alloc (.view ⟨q, 0, none⟩ (ρ.t 5))).drew (.inr ⟨_, ⟨hext.os, hext.tape, hext.output, hext.size, hext.keep, hext.con, hext.ar, hext.shp⟩, by rw [upd_other g _ (by omega)]; exact hg⟩) (Lib.alloc_old w _ k hk)
        rwa [hl] at this
      · exact (bldString_room L X k q cap hc0 c1).mono fun e w' h => hdrew hl h
    · have hcell : ∀ j x, l[j]? = some x → w.cell? ((⟨q, 0, none⟩ : Addr).add j) = some (.int .u8 x.toNat) := fun j x hj => by
        have hjl : j < xs.length := by rw [← l2]; exact (List.getElem?_eq_some_iff.1 hj).1
        obtain ⟨b, hb, henc⟩ := l3 j _ (List.getElem?_eq_getElem hjl)
        rw [hj] at hb; injection hb with hb; subst hb
        obtain ⟨u, g1, g2⟩ := sl_byte hrb X.cellsByte (List.getElem?_eq_getElem hjl) henc
        cases g2
        rw [addr_add, ← g1, Nat.zero_add]
      have hlen : l.length ≤ cells.size := by
        have : xs.length * 1 ≤ cap * 1 := by omega
        rw [X.cellsByte] at hcs
        omega
      rw [← l2] at c1
      refine (bldString_some L X k q cap l hl (by rw [l2]; exact hlc) hll c1 hq hlen hcell).mono ?_
      rintro e w' ⟨rfl, rfl⟩
      have hne : k ≠ q := fun e => by subst e; rw [hg] at hgq; cases hgq
      have hn0 : l.length ≠ 0 := by simpa using hl
      exact fin _ (.inl ((Ext.freeze hn0 hq hgq).mono fun b _ e => by simp [e])) (freeze_old hn0 hne)
end Go.Ev
