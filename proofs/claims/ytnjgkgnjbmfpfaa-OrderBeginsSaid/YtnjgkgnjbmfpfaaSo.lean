/- Memory of the stable sort: a row of numbers in its block, what the test reads, the rest as it was; swapRange. -/
import Derived.Test.YtnjgkgnjbmfpfaaRows
import Derived.Test.YtnjgkgnjbmfpfaaMem
import Derived.Test.YtnjgkgnjbmfpfaaSrt
import Derived.WalkKit
import Derived.WalkSpells
import Derived.WalkLawsBesides
import Derived.BigRegion
import Derived.Deep.LoopGhost
import Derived.Deep.QuietTactic
import Derived.BigQuiet
import Derived.Deep.RegionWith
import Derived.Deep.RegionHeld3
import Derived.Deep.DeepCutAuto
namespace Go.Proofs.Ytnjgkgnjbmfpfaa
open Go.RowKit

/-- the row d (n numbers) lies at off in the block blk; K holds; below B all is as it was in w0 -/
structure SS (K : World → Prop) (w0 : World) (B blk off n : Nat) (t : TypeId) (d : Nat → Int) (w : World) : Prop where
  row : ∃ cs, Bk w blk t cs ∧ ∀ i, i < n → cs[off + i]? = some (.int .i64 (d i))
  k : K w
  bel : Below B w0 w

/-- what the sort may lean on: K stays where only the block blk changes and memory is made; the test tells cmp -/
structure Env (P : Program) (g : Nat) (lb : Array Value) (cmp : Int → Int → Int) (Ok : Int → Prop) (K : World → Prop) (w0 : World) (B blk : Nat) : Prop where
  eg : ∀ args w, (callFunc g args).run P w = .ok (.enter g args) w
  keep : ∀ W W', K W → (∀ b, b ≠ blk → b < W.heap.size → W'.heap[b]? = W.heap[b]?) → W.heap.size ≤ W'.heap.size → K W'
  call : ∀ x y W, K W → Ok x → Ok y → Calls P g (#[.int .i64 x, .int .i64 y] ++ lb) W fun e w' => e = .returned (.int .i64 (cmp x y)) ∧ Below W.heap.size W w'
  bb : B ≤ blk
  b0 : B ≤ w0.heap.size

section
variable {P : Program} {g : Nat} {lb : Array Value} {cmp : Int → Int → Int} {Ok : Int → Prop} {K : World → Prop} {w0 : World} {B blk off n : Nat} {t : TypeId} {d : Nat → Int} {w w' : World}
theorem SS.size (E : Env P g lb cmp Ok K w0 B blk) (h : SS K w0 B blk off n t d w) : B ≤ w.heap.size := Nat.le_trans E.b0 h.bel.size
theorem SS.cell (h : SS K w0 B blk off n t d w) {i : Nat} (hi : i < n) : w.cell? ⟨blk, off + i, none⟩ = some (.int .i64 (d i)) := by
  obtain ⟨cs, h1, h2⟩ := h.row
  exact h1.cell (h2 i hi)
theorem SS.free (h : SS K w0 B blk off n t d w) (i : Nat) : w.frozen? ⟨blk, i, none⟩ = false := by
  obtain ⟨cs, h1, _⟩ := h.row
  exact h1.free i
theorem SS.drew (h : SS K w0 B blk off n t d w) (E : Env P g lb cmp Ok K w0 B blk) : SS K w0 B blk off n t d w.drew := by
  obtain ⟨cs, h1, h2⟩ := h.row
  exact ⟨⟨cs, h1.drew, h2⟩, E.keep _ _ h.k (fun _ _ _ => rfl) (Nat.le_refl _), h.bel.drew⟩
theorem SS.drewN (h : SS K w0 B blk off n t d w) (E : Env P g lb cmp Ok K w0 B blk) (m : Nat) : SS K w0 B blk off n t d (w.drewN m) := by
  obtain ⟨cs, h1, h2⟩ := h.row
  exact ⟨⟨cs, h1.drewN m, h2⟩, E.keep _ _ h.k (fun _ _ _ => rfl) (Nat.le_refl _), below_drewN h.bel m⟩
theorem SS.pass (h : SS K w0 B blk off n t d w) (E : Env P g lb cmp Ok K w0 B blk) (hb : Below w.heap.size w w') : SS K w0 B blk off n t d w' := by
  obtain ⟨cs, h1, h2⟩ := h.row
  exact ⟨⟨cs, h1.pass hb, h2⟩, E.keep _ _ h.k (fun b _ hl => hb.block b hl) hb.size, below_pass h.bel (h.size E) hb⟩
theorem SS.swp (h : SS K w0 B blk off n t d w) (E : Env P g lb cmp Ok K w0 B blk) {i j : Nat} (hi : i < n) (hj : j < n) :
    SS K w0 B blk off n t (Srt.swp d i j) ((w.setCell ⟨blk, off + i, none⟩ (.int .i64 (d j))).setCell ⟨blk, off + j, none⟩ (.int .i64 (d i))) := by
  obtain ⟨cs, h1, h2⟩ := h.row
  refine ⟨⟨_, (h1.set _ _).set _ _, fun k hk => ?_⟩, ?_, (h.bel.setCell E.bb _).setCell E.bb _⟩
  · have li : off + i < cs.size := by
      rcases Nat.lt_or_ge (off + i) cs.size with x | x
      · exact x
      · have := h2 i hi; rw [Array.getElem?_eq_none x] at this; cases this
    have lj : off + j < cs.size := by
      rcases Nat.lt_or_ge (off + j) cs.size with x | x
      · exact x
      · have := h2 j hj; rw [Array.getElem?_eq_none x] at this; cases this
    rw [Array.getElem?_setIfInBounds, Array.getElem?_setIfInBounds]
    unfold Srt.swp
    by_cases x : k = i
    · by_cases y : k = j
      · subst x
        subst y
        simp [li]
      · have e : off + j ≠ off + k := by omega
        have e2 : off + i = off + k := by omega
        rw [if_neg e, if_pos e2, if_pos x]
        simp [li]
    · by_cases y : k = j
      · have e : off + j = off + k := by omega
        rw [if_pos e, if_neg x, if_pos y]
        simp [lj]
      · have e : off + j ≠ off + k := by omega
        have e2 : off + i ≠ off + k := by omega
        rw [if_neg e, if_neg e2, if_neg x, if_neg y]
        exact h2 k hk
  · refine E.keep _ _ h.k (fun b hb _ => ?_) (by simp)
    rw [Below.heap_setCell _ _ _ _ hb, Below.heap_setCell _ _ _ _ hb]
end

set_option maxHeartbeats 2000000 in
theorem swapRange_any {g : Nat} {lb : Array Value} {cmp : Int → Int → Int} {Ok : Int → Prop} {K : World → Prop} {w0 : World} {B blk off n : Nat} {t : TypeId} (E : Env Try.prog g lb cmp Ok K w0 B blk) (f : Value) (cap a b c : Nat) (hab : a + c ≤ b) (hbn : b + c ≤ n) (hn : n ≤ 1000000) (d : Nat → Int) (w : World) (h : SS K w0 B blk off n t d w) :
    Calls Try.prog 64 #[.slice (some ⟨blk, off, none⟩) n cap, .int .i64 a, .int .i64 b, .int .i64 c, f] w fun e w' => e = .returned (.tuple #[]) ∧ SS K w0 B blk off n t (Srt.swr a b c d) w' := by
  have E' := Lib.hid E
  clear E
  go_enter Try.func64, Try.ntmps64
  go_wp2_with fail
  go_loopg [10] c (fun g s10 wr => ∃ k : Nat, k ≤ c ∧ g = c - k ∧ s10 = .int .i64 k ∧ SS K w0 B blk off n t (Srt.swr a b k d) wr)
  case atStart => exact ⟨0, by omega, by omega, rfl, by rw [Srt.swr_zero]; exact h⟩
  case round =>
    obtain ⟨k, hk, hg, rfl, hS⟩ := hrel
    by_cases hlt : k < c
    · have hx := hS.cell (i := a + k) (by omega)
      have hy := hS.cell (i := b + k) (by omega)
      have fx := hS.free (off + (a + k))
      have fy := hS.free (off + (b + k))
      have hN := hS.swp E'.out (i := a + k) (j := b + k) (by omega) (by omega)
      rw [Srt.swr_step (by omega)] at hN
      have HN := Lib.hid hN
      have HS := Lib.hid hS
      clear hN hS h
      generalize Srt.swr a b k d (a + k) = x at *
      generalize Srt.swr a b k d (b + k) = y at *
      go_upto_region 3 with fail
      go_region
      all_goals
        go_wp2_with fail
        go_roundg (c - (k + 1))
        case measure => omega
        case rel => exact ⟨k + 1, by omega, rfl, by go_num, by first | exact HN.out | exact HN.out.drew E'.out | exact HN.out.drewN E'.out _⟩
    · go_wp2_with fail
      go_end0
      have e : k = c := by omega
      subst e
      exact ⟨rfl, hS⟩
end Go.Proofs.Ytnjgkgnjbmfpfaa
