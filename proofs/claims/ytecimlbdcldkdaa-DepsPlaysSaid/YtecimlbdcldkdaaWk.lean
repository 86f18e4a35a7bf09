/- Walk of the document's Same, at two like rows. -/
import Derived.Test.YtecimlbdcldkdaaRows
import Derived.Test.YtecimlbdcldkdaaMem
import Derived.WalkKit
import Derived.WalkSpells
import Derived.WalkLawsBesides
import Derived.Deep.QuietTactic
import Derived.BigQuiet
import Derived.Deep.LoopGhost
import Derived.Lib.Hide
import Derived.Deep.DeepCutAuto
namespace Go.Proofs.Ytecimlbdcldkdaa
open Go.RowKit

/-- n numbers that can be read from A on -/
def NumsAt (w : World) (A : Option Addr) (n : Nat) (d : Nat → Int) : Prop := 0 < n → ∃ g off, A = some ⟨g, off, none⟩ ∧ ∀ j, j < n → w.cell? ⟨g, off + j, none⟩ = some (.int .i64 (d j))

set_option maxHeartbeats 1000000 in
theorem same_any (A B : Option Addr) (n c1 c2 : Nat) (d : Nat → Int) (hn : n ≤ 1000000) (w : World) (h1 : NumsAt w A n d) (h2 : NumsAt w B n d) :
    Calls Try.prog 14 #[.slice A n c1, .slice B n c2] w fun e w' => e = .returned (.bool true) ∧ Below w.heap.size w w' := by
  have H1 := Lib.hid h1
  have H2 := Lib.hid h2
  clear h1 h2
  go_enter Try.func14, Try.ntmps14
  go_wp2_with fail
  go_loopg [5] n (fun g s5 wr => ∃ k : Nat, k ≤ n ∧ g = n - k ∧ s5 = .int .i64 k ∧ Below w.heap.size w wr)
  case atStart => exact ⟨0, by omega, by omega, rfl, Below.refl _ _⟩
  case round =>
    obtain ⟨k, hk, hg, rfl, hB⟩ := hrel
    by_cases hlt : k < n
    · obtain ⟨g1, o1, rfl, c1⟩ := H1.out (by omega)
      obtain ⟨g2, o2, rfl, c2⟩ := H2.out (by omega)
      have x1 : wr.cell? ⟨g1, o1 + k, none⟩ = some (.int .i64 (d k)) := keep_below (c1 k hlt) hB
      have x2 : wr.cell? ⟨g2, o2 + k, none⟩ = some (.int .i64 (d k)) := keep_below (c2 k hlt) hB
      clear c1 c2
      generalize d k = x at *
      have i0 : (0 : Int) ≤ (k : Int) := by omega
      have i1 : (k : Int) < (n : Int) := by omega
      go_upto_region 6 with fail
      go_quiet (fail)
      go_wp2_with fail
      go_roundg (n - (k + 1))
      case measure => omega
      case rel => exact ⟨k + 1, by omega, rfl, by go_num, by first | exact hB | exact hB.drew | exact below_drewN hB _⟩
    · go_wp2_with fail
      go_ret
      exact ⟨rfl, hB⟩
end Go.Proofs.Ytecimlbdcldkdaa
