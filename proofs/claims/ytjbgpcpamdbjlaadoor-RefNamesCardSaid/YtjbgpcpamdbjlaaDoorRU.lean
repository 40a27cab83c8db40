/- What the places' functions tell, in closed form. -/
import Derived.Test.YtjbgpcpamdbjlaaDoorRN
import Derived.Test.YtjbgpcpamdbjlaaDoorEvY
namespace Go.Proofs.YtjbgpcpamdbjlaaDoor
open Go Go.Ev

def R64 (n : Int) : Prop := Ev.inR .i64 n
theorem R64.iff {n : Int} : R64 n ↔ -9223372036854775808 ≤ n ∧ n ≤ 9223372036854775807 := Iff.rfl
theorem wrapR {n : Int} (h : -9223372036854775808 ≤ n ∧ n ≤ 9223372036854775807) : IntKind.i64.wrap n = n := wrap_of_inR h

theorem tmod_bounds (n m : Int) (hm : 0 < m) : -m < n.tmod m ∧ n.tmod m < m := by
  have h1 := Int.tmod_lt_of_pos n hm
  have h2 : -m < n.tmod m := by
    have := Int.lt_tmod_of_pos n hm
    exact this
  exact ⟨h2, h1⟩
theorem mod_val {n m : Int} (hm : 0 < m) (hm2 : m ≤ 65536) : modF (n, m) = some (n % m) := by
  have ⟨h1, h2⟩ := tmod_bounds n m hm
  have hne : ¬ m = 0 := by omega
  unfold modF
  simp only [hne, decide_false, brn_false]
  rw [wrapR (by omega)]
  congr 1
  rw [Int.tmod_eq_emod_of_nonneg (by omega), Int.add_emod_right]
  have := Int.tmod_def n m
  rw [this, Int.sub_emod, Int.mul_emod_right]
  simp
theorem imod_val {n m : Int} (hm : 0 < m) (hm2 : m ≤ 65536) : imodF (n, m) = some (n % m) := by
  have ⟨h1, h2⟩ := tmod_bounds n m hm
  have hne : ¬ m = 0 := by omega
  have key : (n.tmod m) % m = n % m := by
    have := Int.tmod_def n m
    rw [this, Int.sub_emod, Int.mul_emod_right]
    simp
  unfold imodF
  simp only [hne, decide_false, brn_false]
  by_cases hneg : n.tmod m < 0
  · simp only [hneg, decide_true, brn_true]
    rw [wrapR (by omega)]
    congr 1
    rw [← key, ← Int.add_emod_right, Int.emod_eq_of_lt (by omega) (by omega)]
  · simp only [hneg, decide_false, brn_false]
    congr 1
    rw [← key, Int.emod_eq_of_lt (by omega) h2]

theorem wadd {a b m : Int} (hm : 0 < m) (hm2 : m ≤ 65536) : IntKind.i64.wrap (a % m + b % m) % m = (a + b) % m := by
  have h1 := Int.emod_nonneg a (show m ≠ 0 by omega)
  have h2 := Int.emod_lt_of_pos a hm
  have h3 := Int.emod_nonneg b (show m ≠ 0 by omega)
  have h4 := Int.emod_lt_of_pos b hm
  rw [wrapR (by omega), ← Int.add_emod]
theorem wsub {a b m : Int} (hm : 0 < m) (hm2 : m ≤ 65536) : IntKind.i64.wrap (a % m - b % m) % m = (a - b) % m := by
  have h1 := Int.emod_nonneg a (show m ≠ 0 by omega)
  have h2 := Int.emod_lt_of_pos a hm
  have h3 := Int.emod_nonneg b (show m ≠ 0 by omega)
  have h4 := Int.emod_lt_of_pos b hm
  rw [wrapR (by omega), ← Int.sub_emod]
theorem wadd1 (a b : Int) : IntKind.i64.wrap (a % 65536 + b % 65536) % 65536 = (a + b) % 65536 := wadd (by decide) (by decide)
theorem wadd2 (a b : Int) : IntKind.i64.wrap (a % 256 + b % 256) % 256 = (a + b) % 256 := wadd (by decide) (by decide)
theorem wsub1 (a b : Int) : IntKind.i64.wrap (a % 65536 - b % 65536) % 65536 = (a - b) % 65536 := wsub (by decide) (by decide)
theorem wsub2 (a b : Int) : IntKind.i64.wrap (a % 256 - b % 256) % 256 = (a - b) % 256 := wsub (by decide) (by decide)
theorem mod1 (n : Int) : modF (n, 65536) = some (n % 65536) := mod_val (by decide) (by decide)
theorem mod2 (n : Int) : modF (n, 256) = some (n % 256) := mod_val (by decide) (by decide)
theorem imod1 (n : Int) : imodF (n, 65536) = some (n % 65536) := imod_val (by decide) (by decide)
theorem imod2 (n : Int) : imodF (n, 256) = some (n % 256) := imod_val (by decide) (by decide)
theorem sum1 (a b : Int) : sumF (a, b, 65536) = some ((a + b) % 65536) := by simp [sumF, mod1, wadd1]
theorem sum2 (a b : Int) : sumF (a, b, 256) = some ((a + b) % 256) := by simp [sumF, mod2, wadd2]
/-- the cell that a place means -/
def atV (r : Ref) (b : Cell) : Cell := { Row := if r.RelRow then (r.Row + b.Row) % 65536 else r.Row % 65536, Col := if r.RelCol then (r.Col + b.Col) % 256 else r.Col % 256 }
theorem at_val (r : Ref) (b : Cell) : atF (r, b) = some (atV r b) := by
  unfold atF atV
  cases r.RelRow <;> cases r.RelCol <;> simp [mod1, mod2, sum1, sum2]
theorem iat_val (r : Ref) (b : Cell) : iatF (r, b) = some (atV r b) := by
  unfold iatF atV
  cases r.RelRow <;> cases r.RelCol <;> simp [imod1, imod2, wadd1, wadd2]
/-- the place that means a cell -/
def relV (c b : Cell) (u v : Bool) : Ref := { Row := if u then (c.Row - b.Row) % 65536 else c.Row % 65536, Col := if v then (c.Col - b.Col) % 256 else c.Col % 256, RelRow := u, RelCol := v }
theorem rel_val (c b : Cell) (u v : Bool) : relF (c, b, u, v) = some (relV c b u v) := by
  unfold relF relV
  cases u <;> cases v <;> simp [mod1, mod2, wsub1, wsub2]
theorem irel_val (c b : Cell) (u v : Bool) : irelF (c, b, u, v) = some (relV c b u v) := by
  unfold irelF relV
  cases u <;> cases v <;> simp [imod1, imod2, wsub1, wsub2]
def goodV (c : Cell) : Bool := decide (0 ≤ c.Row) && (decide (c.Row < 65536) && (decide (0 ≤ c.Col) && decide (c.Col < 256)))
theorem good_val (c : Cell) : goodF c = some (goodV c) := by
  unfold goodF goodV
  cases decide (0 ≤ c.Row) <;> cases decide (c.Row < 65536) <;> cases decide (0 ≤ c.Col) <;> simp
theorem igood_val (c : Cell) : igoodF c = some (goodV c) := by
  unfold igoodF goodV
  cases decide (0 ≤ c.Row) <;> cases decide (c.Row < 65536) <;> cases decide (0 ≤ c.Col) <;> simp
theorem goodV_iff {c : Cell} : goodV c = true ↔ 0 ≤ c.Row ∧ c.Row < 65536 ∧ 0 ≤ c.Col ∧ c.Col < 256 := by simp [goodV]
def checkV (r : Ref) : Int := if goodV ⟨r.Row, r.Col⟩ then 0 else 12
theorem check_val (r : Ref) : checkF r = some (checkV r) := by
  unfold checkF checkV
  simp only [good_val, obnd_some]
  cases goodV ⟨r.Row, r.Col⟩ <;> rfl
theorem icheck_val (r : Ref) : icheckF r = some (checkV r) := by
  unfold icheckF checkV
  simp only [igood_val, obnd_some]
  cases goodV ⟨r.Row, r.Col⟩ <;> rfl
theorem at_rel (c b : Cell) (u v : Bool) (h : goodV c = true) : atV (relV c b u v) b = c := by
  obtain ⟨h1, h2, h3, h4⟩ := goodV_iff.1 h
  obtain ⟨R, C⟩ := c
  simp only at h1 h2 h3 h4
  unfold atV relV
  cases u <;> cases v <;> simp only [Bool.false_eq_true, if_true, if_false, Cell.mk.injEq] <;> constructor <;> omega
theorem true_out {P : Program} : ∀ g w us cs v, HoldsL P tb g w [(0, .val 4)] true us cs → RetV [(0, .val 4)] us v → isAggB P 4 = false → v = .bool true := by
  intro g w us cs v h hr ha
  cases us with
  | nil => cases cs <;> exact h.elim
  | cons u us =>
    cases us with
    | cons _ _ => cases cs <;> exact h.elim
    | nil =>
      cases cs with
      | nil => exact h.elim
      | cons c cs =>
        cases cs with
        | cons _ _ => exact h.elim
        | nil =>
          have hr : v = u := hr
          subst hr
          obtain ⟨h1, _⟩ := h
          unfold HoldsV at h1
          simp only [ha, Bool.false_eq_true, if_false] at h1
          obtain ⟨c, hc, hrep⟩ := h1
          have hc : [CV.bool true] = [c] := hc
          simp only [List.cons.injEq, and_true] at hc
          subst hc
          cases hrep
          rfl
theorem notAgg4 : isAggB Tryd.prog 4 = false := by kernel_rfl
end Go.Proofs.YtjbgpcpamdbjlaaDoor
