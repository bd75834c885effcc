/- More steps of the evaluator as equations: cuts. -/
import Derived.Test.YtilfhbpehgklbaaQqSym
set_option linter.unusedSimpArgs false
set_option linter.unusedVariables false
namespace Go.D
section
variable {ev : FuncId → List DV → Heap → Res DV} {old : DV} {h : Heap}

theorem c_slc_hi (sz sz' : Nat) (m m' : Bool) (md : Mode) (xs : List DV) (k : IntKind) (u : Int) : compute ev (.slc sz false true false) old [(m, .sl md sz' xs), (m', .sc (.int k u))] h =
    if sz' = sz ∧ 0 ≤ u ∧ u ≤ (xs.length : Int) then .ok (.sl .view sz (xs.take u.toNat)) h else .no := by
  show (match ([] : List (Bool × DV)), bounds xs.length none (some u) none with | [], some (l, u, m) => if sz' = sz then (Res.ok (.sl (if m = some u then .full else .view) sz ((xs.drop l).take (u - l))) h : Res DV) else .no | _, _ => .no) = _
  by_cases h1 : 0 ≤ u ∧ u ≤ (xs.length : Int)
  · simp [bounds, h1]
  · have : ¬ (sz' = sz ∧ 0 ≤ u ∧ u ≤ (xs.length : Int)) := fun hh => h1 hh.2
    rw [if_neg this]
    have hb : bounds xs.length none (some u) none = none := by simp only [bounds, Option.getD_some, Option.getD_none]; rw [if_neg (by omega)]
    rw [hb]
theorem c_slc_lo (sz sz' : Nat) (m m' : Bool) (md : Mode) (xs : List DV) (k : IntKind) (u : Int) : compute ev (.slc sz true false false) old [(m, .sl md sz' xs), (m', .sc (.int k u))] h =
    if sz' = sz ∧ 0 ≤ u ∧ u ≤ (xs.length : Int) then .ok (.sl .view sz (xs.drop u.toNat)) h else .no := by
  show (match ([] : List (Bool × DV)), bounds xs.length (some u) none none with | [], some (l, u, m) => if sz' = sz then (Res.ok (.sl (if m = some u then .full else .view) sz ((xs.drop l).take (u - l))) h : Res DV) else .no | _, _ => .no) = _
  by_cases h1 : 0 ≤ u ∧ u ≤ (xs.length : Int)
  · simp [bounds, h1]
    rw [List.take_of_length_le (by simp)]
  · have : ¬ (sz' = sz ∧ 0 ≤ u ∧ u ≤ (xs.length : Int)) := fun hh => h1 hh.2
    rw [if_neg this]
    have hb : bounds xs.length (some u) none none = none := by simp only [bounds, Option.getD_some, Option.getD_none]; rw [if_neg (by omega)]
    rw [hb]
theorem c_slc_both (sz sz' : Nat) (m m' m'' : Bool) (md : Mode) (xs : List DV) (k k' : IntKind) (l u : Int) : compute ev (.slc sz true true false) old [(m, .sl md sz' xs), (m', .sc (.int k l)), (m'', .sc (.int k' u))] h =
    if sz' = sz ∧ 0 ≤ l ∧ l ≤ u ∧ u ≤ (xs.length : Int) then .ok (.sl .view sz ((xs.drop l.toNat).take (u.toNat - l.toNat))) h else .no := by
  show (match ([] : List (Bool × DV)), bounds xs.length (some l) (some u) none with | [], some (l, u, m) => if sz' = sz then (Res.ok (.sl (if m = some u then .full else .view) sz ((xs.drop l).take (u - l))) h : Res DV) else .no | _, _ => .no) = _
  by_cases h1 : 0 ≤ l ∧ l ≤ u ∧ u ≤ (xs.length : Int)
  · simp [bounds, h1]
  · have : ¬ (sz' = sz ∧ 0 ≤ l ∧ l ≤ u ∧ u ≤ (xs.length : Int)) := fun hh => h1 hh.2
    rw [if_neg this]
    have hb : bounds xs.length (some l) (some u) none = none := by simp only [bounds, Option.getD_some]; rw [if_neg (by omega)]
    rw [hb]
theorem c_slc_hm (sz sz' : Nat) (m m' m'' : Bool) (md : Mode) (xs : List DV) (k k' : IntKind) (u mx : Int) : compute ev (.slc sz false true true) old [(m, .sl md sz' xs), (m', .sc (.int k u)), (m'', .sc (.int k' mx))] h =
    if sz' = sz ∧ 0 ≤ u ∧ u ≤ mx ∧ mx ≤ (xs.length : Int) then .ok (.sl (if mx.toNat = u.toNat then .full else .view) sz (xs.take u.toNat)) h else .no := by
  show (match ([] : List (Bool × DV)), bounds xs.length none (some u) (some mx) with | [], some (l, u, m) => if sz' = sz then (Res.ok (.sl (if m = some u then .full else .view) sz ((xs.drop l).take (u - l))) h : Res DV) else .no | _, _ => .no) = _
  by_cases h1 : 0 ≤ u ∧ u ≤ mx ∧ mx ≤ (xs.length : Int)
  · simp [bounds, h1]
  · have : ¬ (sz' = sz ∧ 0 ≤ u ∧ u ≤ mx ∧ mx ≤ (xs.length : Int)) := fun hh => h1 hh.2
    rw [if_neg this]
    have hb : bounds xs.length none (some u) (some mx) = none := by simp only [bounds, Option.getD_some, Option.getD_none]; rw [if_neg (by omega)]
    rw [hb]
attribute [go_sem] c_slc_hi c_slc_lo c_slc_both c_slc_hm
end
end Go.D
