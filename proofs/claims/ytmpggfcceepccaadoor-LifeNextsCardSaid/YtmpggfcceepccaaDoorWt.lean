/- The document's Next: joined. -/
import Derived.Test.YtmpggfcceepccaaDoorWq
import Derived.Test.YtmpggfcceepccaaDoorLb
namespace Go.Proofs.YtmpggfcceepccaaDoor
open Go.RowKit

theorem right_ends {s a l : Int} {x y : Bool} (h : Lif.right ⟨s, a, l, x, y⟩ = true) : 1 ≤ s ∧ s ≤ 8 ∧ 0 ≤ a ∧ a ≤ 6 ∧ 0 ≤ l ∧ l ≤ 6 := by
  have h := Lif.right_iff.1 h
  have hm : Lif.most s ≤ 6 := by unfold Lif.most; split <;> omega
  unfold Lif.Rt at h
  simp only at h
  omega

theorem says_of {q q' : Lif.Life × Int} {w : World} {F : Nat} {args : Array Value} (h : Calls Tryd.prog F args w (SaysNext q w)) (e : q = q') : Calls Tryd.prog F args w (SaysNext q' w) := e ▸ h

theorem neb {v k : Int} (h : v ≠ k) : (v == k) = false := by simpa using h

set_option maxHeartbeats 1000000 in
/-- THE DOCUMENT'S NEXT: what the plain law says. -/
theorem refNext_any (s a l : Int) (x y : Bool) (g : Int) (q : Lif.Life × Int) (hq : Lif.next ⟨s, a, l, x, y⟩ g = q) (w : World) :
    Calls Tryd.prog 11 #[.agg #[.int .i64 s, .int .i64 a, .int .i64 l, .bool x, .bool y], .int .i64 g] w (SaysNext q w) := by
  subst hq
  by_cases hR : Lif.right ⟨s, a, l, x, y⟩ = true
  · obtain ⟨s1, s8, a0, a6, l0, l6⟩ := right_ends hR
    have e := next_eq hR g
    have hs : s = 1 ∨ s = 2 ∨ s = 3 ∨ s = 4 ∨ 5 ≤ s := by omega
    rcases hs with rfl | rfl | rfl | rfl | h5
    · have e : Lif.next ⟨1, a, l, x, y⟩ g = if (Lif.waiting ⟨1, a, l, x, y⟩ g).2 = true then ((Lif.waiting ⟨1, a, l, x, y⟩ g).1, 0) else (Lif.zero, 100) := by rw [e]; rfl
      rw [e]
      by_cases g1 : g = 1
      · subst g1; exact refNext_p1 a l x y hR w
      · by_cases g3 : g = 3
        · subst g3; exact refNext_p3 a l x y ⟨a0, by omega⟩ hR w
        · by_cases g6 : g = 6
          · subst g6; exact refNext_p6 a l x y hR w
          · by_cases g7 : g = 7
            · subst g7; exact refNext_p7 a l x y hR w
            · exact says_of (refNext_x1 a l x y g (neb g1) (neb g3) (neb g6) (neb g7) hR w) (by simp [Lif.waiting, g1, g3, g6, g7, Lif.zero])
    · have e : Lif.next ⟨2, a, l, x, y⟩ g = if (Lif.waiting ⟨2, a, l, x, y⟩ g).2 = true then ((Lif.waiting ⟨2, a, l, x, y⟩ g).1, 0) else (Lif.zero, 100) := by rw [e]; rfl
      rw [e]
      by_cases g2 : g = 2
      · subst g2; exact refNext_h2 a l x y hR w
      · by_cases g6 : g = 6
        · subst g6; exact refNext_h6 a l x y hR w
        · by_cases g7 : g = 7
          · subst g7; exact refNext_h7 a l x y hR w
          · exact says_of (refNext_x2 a l x y g (neb g2) (neb g6) (neb g7) hR w) (by simp [Lif.waiting, g2, g6, g7, Lif.zero])
    · have e : Lif.next ⟨3, a, l, x, y⟩ g = if (Lif.living ⟨3, a, l, x, y⟩ g).2 = true then ((Lif.living ⟨3, a, l, x, y⟩ g).1, 0) else (Lif.zero, 100) := by rw [e]; rfl
      rw [e]
      by_cases g4 : g = 4
      · subst g4; exact refNext_r4 a l x y hR w
      · by_cases g5 : g = 5
        · subst g5; exact refNext_r5 a l x y hR w
        · by_cases g8 : g = 8
          · subst g8; exact refNext_r8 a l x y hR w
          · cases y
            · by_cases g6 : g = 6
              · subst g6; exact refNext_r6 a l x hR w
              · exact says_of (refNext_x3 a l x g (neb g4) (neb g5) (neb g6) (neb g8) hR w) (by simp [Lif.living, g4, g5, g6, g8, Lif.zero])
            · exact says_of (refNext_x3t a l x g (neb g4) (neb g5) (neb g8) hR w) (by simp [Lif.living, g4, g5, g8, Lif.zero])
    · have e : Lif.next ⟨4, a, l, x, y⟩ g = if (Lif.living ⟨4, a, l, x, y⟩ g).2 = true then ((Lif.living ⟨4, a, l, x, y⟩ g).1, 0) else (Lif.zero, 100) := by rw [e]; rfl
      rw [e]
      by_cases g4 : g = 4
      · subst g4; exact refNext_e4 a l x y hR w
      · by_cases g5 : g = 5
        · subst g5; exact refNext_e5 a l x y hR w
        · by_cases g8 : g = 8
          · subst g8; exact refNext_e8 a l x y (by omega) hR _ rfl w
          · cases y
            · by_cases g6 : g = 6
              · subst g6; exact refNext_e6 a l x hR w
              · exact says_of (refNext_x4 a l x g (neb g4) (neb g5) (neb g6) (neb g8) hR w) (by simp [Lif.living, g4, g5, g6, g8, Lif.zero])
            · exact says_of (refNext_x4t a l x g (neb g4) (neb g5) (neb g8) hR w) (by simp [Lif.living, g4, g5, g8, Lif.zero])
    · have hw : Lif.waits s = false := waits_no (by omega)
      have hlv : Lif.live s = false := live_no (by omega)
      rw [e, hw, hlv]
      exact refNext_x5 s a l x y g hlv (neb (by omega)) (neb (by omega)) (neb (by omega)) (neb (by omega)) hR w
  · have hR : Lif.right ⟨s, a, l, x, y⟩ = false := by simpa using hR
    exact says_of (refNext_bad s a l x y g hR w) (by unfold Lif.next; rw [hR]; rfl)
end Go.Proofs.YtmpggfcceepccaaDoor
