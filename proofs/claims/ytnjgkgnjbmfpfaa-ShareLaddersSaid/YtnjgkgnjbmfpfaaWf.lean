/- The walk of share.Least: a row of shares in memory. -/
import Derived.Test.YtnjgkgnjbmfpfaaWd
import Derived.Test.YtnjgkgnjbmfpfaaLeastM
namespace Go.Proofs.Ytnjgkgnjbmfpfaa
open Go.RowKit Go.Shelf

/-- a row of n shares in memory -/
def ShareRow (w : World) (A : Option Addr) (n : Nat) (a b : Nat → Int) : Prop :=
  (0 < n → ∃ bl off, A = some ⟨bl, off, none⟩ ∧ ∀ i, i < n → w.cell? ⟨bl, off + i * 2, none⟩ = some (.int .i64 (a i)) ∧ w.cell? ⟨bl, off + i * 2 + 1, none⟩ = some (.int .i64 (b i))) ∧
  ∀ i, a i ≤ 9223372036854775807 ∧ b i ≤ 9223372036854775807

set_option maxHeartbeats 1000000 in
theorem least_any (bl off n c : Nat) (a b : Nat → Int) (w : World) (hn : n ≤ 9223372036854775807) (hrow : ∀ i, i < n → w.cell? ⟨bl, off + i * 2, none⟩ = some (.int .i64 (a i)) ∧ w.cell? ⟨bl, off + i * 2 + 1, none⟩ = some (.int .i64 (b i)))
    (hab : ∀ i, a i ≤ 9223372036854775807 ∧ b i ≤ 9223372036854775807) :
    Calls Try.prog 21 #[.slice (some ⟨bl, off, none⟩) n c] w fun e w' => e = .returned (.int .i64 (Shr.leastN a b n)) ∧ Below w.heap.size w w' := by
  have HR := Lib.hid hrow
  have HA := Lib.hid hab
  clear hrow hab
  go_enter Try.func21, Try.ntmps21
  go_wp2_with fail
  go_loopg [3, 8] n (fun g s3 s8 wr => ∃ k : Nat, k ≤ n ∧ g = n - k ∧ s8 = .int .i64 k ∧ s3 = .int .i64 (Shr.leastN a b k) ∧ Below w.heap.size w wr)
  case atStart => exact ⟨0, by omega, by omega, rfl, rfl, Below.refl _ _⟩
  case round =>
    obtain ⟨k, hk, hg, rfl, rfl, hB⟩ := hrel
    have hr := Shr.leastN_range a b k
    by_cases hlt : k < n
    · have hx : wr.cell? ⟨bl, off + k * 2, none⟩ = some (.int .i64 (a k)) := keep_below (HR.out k hlt).1 hB
      have hy : wr.cell? ⟨bl, off + k * 2 + 1, none⟩ = some (.int .i64 (b k)) := keep_below (HR.out k hlt).2 hB
      by_cases k0 : k = 0
      · have HN := Lib.hid (Shr.leastN_yes (a := a) (b := b) (k := k) (Or.inl (by have := hr.1 k0; omega)))
        have ht : Shr.leastN a b k < 0 := by have := hr.1 k0; omega
        clear hr k0
        generalize Shr.leastN a b k = m at *
        have hd : decide (m < 0) = true := by simpa using ht
        go_upto_region 5 with fail
        go_quiet (fail)
        go_wp2_with fail
        go_roundg (n - (k + 1))
        case measure => omega
        case rel => exact ⟨k + 1, by omega, rfl, by go_num, by rw [HN.out], below_drewN (hB.alloc hB.size _) _⟩
      · obtain ⟨j, hj⟩ : ∃ j : Nat, Shr.leastN a b k = (j : Int) := ⟨_, (Int.toNat_of_nonneg (hr.2 (by omega)).1).symm⟩
        have hjk : j < k := by have := (hr.2 (by omega)).2; omega
        have hx2 : wr.cell? ⟨bl, off + j * 2, none⟩ = some (.int .i64 (a j)) := keep_below (HR.out j (by omega)).1 hB
        have hy2 : wr.cell? ⟨bl, off + j * 2 + 1, none⟩ = some (.int .i64 (b j)) := keep_below (HR.out j (by omega)).2 hB
        have HS : Hid (Shr.leastN a b (k + 1) = if Shr.cmp (a k) (b k) (a j) (b j) < 0 then (k : Int) else j) := by
          unfold Hid
          by_cases hc : Shr.cmp (a k) (b k) (a j) (b j) < 0
          · rw [if_pos hc]
            exact Shr.leastN_yes (Or.inr (by rw [hj]; exact hc))
          · rw [if_neg hc, Shr.leastN_no (by omega) (by rw [hj]; exact hc), hj]
        have hak := HA.out k
        have haj := HA.out j
        rw [hj]
        clear hj hr
        have hd : decide ((j : Int) < 0) = false := by simp
        have hjn : (j : Int) < (n : Int) := by omega
        have hj0 : (0 : Int) ≤ (j : Int) := by omega
        generalize a k = ak at *
        generalize b k = bk at *
        generalize a j = aj at *
        generalize b j = bj at *
        go_upto_region 5 with fail
        have e1 := keep_alloc (o := .cells #[.int .i64 ak, .int .i64 bk] 23) hx2
        have e2 := keep_alloc (o := .cells #[.int .i64 ak, .int .i64 bk] 23) hy2
        have e3 : (wr.alloc (.cells #[.int .i64 ak, .int .i64 bk] 23)).cell? ⟨wr.heap.size, 0, none⟩ = some (.int .i64 ak) := (Bk.new wr _ _).cell rfl
        have e4 : (wr.alloc (.cells #[.int .i64 ak, .int .i64 bk] 23)).cell? ⟨wr.heap.size, 1, none⟩ = some (.int .i64 bk) := (Bk.new wr _ _).cell rfl
        go_region_held3 (fun w' => w'.cell? ⟨bl, off + j * 2, none⟩ = some (.int .i64 aj) ∧ w'.cell? ⟨bl, off + j * 2 + 1, none⟩ = some (.int .i64 bj) ∧ w'.cell? ⟨wr.heap.size, 0, none⟩ = some (.int .i64 ak) ∧ w'.cell? ⟨wr.heap.size, 1, none⟩ = some (.int .i64 bk)) (exact ⟨by assumption, by assumption, by assumption, by assumption⟩) (first | (go_at_call 17; refine (compare_any _ _ _ _ hak.1 hak.2 haj.1 haj.2 _).mono ?_; rintro e w' ⟨rfl, hb⟩; have g1 := keep_below (keep_drew e1) hb; have g2 := keep_below (keep_drew e2) hb; have g3 := keep_below (keep_drew e3) hb; have g4 := keep_below (keep_drew e4) hb))
        have hB2 := below_pass (hB.alloc hB.size (.cells #[.int .i64 ak, .int .i64 bk] 23)).drew (by have := hB.size; simp; omega) hb
        go_wp2_with fail
        · go_roundg (n - (k + 1))
          case measure => omega
          case rel => exact ⟨k + 1, by omega, rfl, by go_num, by rw [HS.out, if_pos ‹_›], hB2⟩
        · go_roundg (n - (k + 1))
          case measure => omega
          case rel => exact ⟨k + 1, by omega, rfl, by go_num, by rw [HS.out, if_neg (by omega)], hB2⟩
    · obtain rfl : k = n := by omega
      go_wp2_with fail
      go_ret
      exact ⟨rfl, hB⟩

end Go.Proofs.Ytnjgkgnjbmfpfaa
