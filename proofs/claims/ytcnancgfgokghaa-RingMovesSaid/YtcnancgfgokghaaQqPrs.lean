/- Rows of pairs of numbers, for symbolic runs. -/
import Derived.Test.YtcnancgfgokghaaQqLD
set_option linter.unusedSimpArgs false
set_option linter.unusedVariables false
namespace Go.D
def prs (l : List (Int × Int)) : List DV := l.map fun p => .agg [.sc (.int .i64 p.1), .sc (.int .i64 p.2)]
theorem len_prs (l : List (Int × Int)) : (prs l).length = l.length := by simp [prs]
theorem get_prs (l : List (Int × Int)) (i : Nat) : (prs l)[i]? = (l[i]?).map fun p => .agg [.sc (.int .i64 p.1), .sc (.int .i64 p.2)] := by simp [prs]
theorem app1_prs (l : List (Int × Int)) (x y : Int) : prs l ++ [.agg [.sc (.int .i64 x), .sc (.int .i64 y)]] = prs (l ++ [(x, y)]) := by simp [prs]
theorem strip_prs (l : List (Int × Int)) : stripL (prs l) = prs l := stripL_map _ (fun _ => rfl) l
theorem free_prs (l : List (Int × Int)) : freeL (prs l) = true := freeL_map _ (fun _ => rfl) l
theorem fresh_prs (l : List (Int × Int)) : freshL (prs l) = true := freshL_map _ (fun _ => rfl) l
theorem emp_prs (l : List (Int × Int)) : (prs l).isEmpty = l.isEmpty := by cases l <;> rfl
attribute [go_sem] len_prs get_prs app1_prs strip_prs free_prs fresh_prs emp_prs
/-- How a row that grew from nothing may be appended to. -/
def md {α : Type} : List α → Mode
  | [] => .full
  | _ => .own
theorem md_app {α : Type} (l : List α) (x : α) : md (l ++ [x]) = .own := by cases l <;> rfl
theorem app1_ints (l : List Int) (x : Int) : ints l ++ [.sc (.int .i64 x)] = ints (l ++ [x]) := by simp [ints]
theorem app1_u8s (l : List Int) (x : Int) : u8s l ++ [.sc (.int .u8 x)] = u8s (l ++ [x]) := by simp [u8s]
theorem bool_tf : (true == false) = false := rfl
theorem bool_ft : (false == true) = false := rfl
attribute [go_sem] app1_ints app1_u8s bool_tf bool_ft
theorem range_snoc {α : Type} (f : Nat → α) (n : Nat) : (List.range n).map f ++ [f n] = (List.range (n + 1)).map f := by
  rw [List.range_succ, List.map_append]; rfl
end Go.D
