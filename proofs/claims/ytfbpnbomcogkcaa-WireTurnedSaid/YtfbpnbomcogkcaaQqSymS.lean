/- Texts as rows of bytes, for symbolic runs. -/
import Derived.Test.YtfbpnbomcogkcaaQqSymB
import Derived.Test.YtfbpnbomcogkcaaQqInvS
set_option linter.unusedSimpArgs false
set_option linter.unusedVariables false
namespace Go.D
/-- A text's bytes, and the text of bytes. -/
def sb (s : ByteArray) : List Int := s.data.toList.map fun b => (b.toNat : Int)
def bst (l : List Int) : ByteArray := ⟨(l.map fun n => UInt8.ofNat n.toNat).toArray⟩
theorem ofBytes_sb (s : ByteArray) : ofBytes s.data.toList = u8s (sb s) := by simp [ofBytes, sb, u8s]
theorem len_sb (s : ByteArray) : (sb s).length = s.size := by simp [sb]
theorem bst_sb (s : ByteArray) : bst (sb s) = s := by
  have : (List.map (fun n : Int => UInt8.ofNat n.toNat) (sb s)) = s.data.toList := by
    unfold sb
    rw [List.map_map]
    conv => rhs; rw [← List.map_id s.data.toList]
    apply List.map_congr_left
    intro x _
    simp
  unfold bst
  rw [this]
theorem sb_bytes (s : ByteArray) : ∀ x ∈ sb s, 0 ≤ x ∧ x < 256 := by
  intro x hx
  simp only [sb, List.mem_map] at hx
  obtain ⟨b, _, rfl⟩ := hx
  have := b.toNat_lt
  omega
theorem bytesOf_u8s (l : List Int) : bytesOf (u8s l) = some (l.map fun n => UInt8.ofNat n.toNat) := by
  induction l with
  | nil => rfl
  | cons x r ih => simp only [u8s, List.map_cons, bytesOf] at ih ⊢; rw [ih]; rfl
theorem c_cvBS {ev : FuncId → List DV → Heap → Res DV} {old : DV} {h : Heap} (m : Bool) (md : Mode) (l : List Int) : compute ev .cvBS old [(m, .sl md 1 (u8s l))] h = .ok (.sc (.string (bst l))) h := by
  show (match elemsSl h (.sl md 1 (u8s l)) with | some (1, ys) => (match bytesOf ys with | some l => (Res.ok (.sc (.string ⟨l.toArray⟩)) h : Res DV) | none => .no) | _ => .no) = _
  simp only [elemsSl, bytesOf_u8s]
  rfl
attribute [go_sem] ofBytes_sb c_cvBS
theorem sh_str {d : DV} (h : Sh .str d) : ∃ s : ByteArray, d = .sc (.string s) ∧ s.size ≤ reachBytes := by simpa only [Sh] using h
end Go.D
