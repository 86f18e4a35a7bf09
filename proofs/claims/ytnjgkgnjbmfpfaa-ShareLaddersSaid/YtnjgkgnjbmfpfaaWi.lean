/- Walks of share.Ladder: its test, and the whole. -/
import Derived.Test.YtnjgkgnjbmfpfaaLadM
import Derived.Test.YtnjgkgnjbmfpfaaSu
import Derived.Test.YtnjgkgnjbmfpfaaWd
import Derived.OwnWalk
import Derived.Laws.MakeOwn
namespace Go.Proofs.Ytnjgkgnjbmfpfaa
open Go.RowKit Go.Shelf

theorem infoShare : (Try.prog.info? 23).map (fun i => (i.zero, i.size, i.bytes)) = some (some (.agg #[.int .i64 0, .int .i64 0]), 2, 16) := by kernel_rfl
theorem infoInt : (Try.prog.info? 3).map (fun i => (i.zero, i.size, i.bytes)) = some (some (.int .i64 0), 1, 8) := by kernel_rfl
theorem make_shares (n : Nat) (hn : n ≤ 1000000) (W : World) : (Instr.makeSlice 32 (.int .i64 (n : Int)) (.int .i64 (n : Int))).run Try.prog W = .ok (.slice (some ⟨W.heap.size, 0, none⟩) n n) (W.alloc (.cells (madeCells #[.int .i64 0, .int .i64 0] (n * 2)) 23)) := by
  obtain ⟨i, hi, hz, hs, hb⟩ := info_parts infoShare
  have h := run_make (P := Try.prog) W 32 23 i _ Try.underlying32 hi hz .i64 .i64 n n (by omega) (Int.le_refl _) (by rw [hb]; omega) (by omega)
  rw [hs] at h
  exact h
theorem make_ints (n : Nat) (hn : n ≤ 1000000) (W : World) : (Instr.makeSlice 41 (.int .i64 (n : Int)) (.int .i64 (n : Int))).run Try.prog W = .ok (.slice (some ⟨W.heap.size, 0, none⟩) n n) (W.alloc (.cells (madeCells #[.int .i64 0] n) 3)) := by
  obtain ⟨i, hi, hz, hs, hb⟩ := info_parts infoInt
  have h := run_make (P := Try.prog) W 41 3 i _ Try.underlying41 hi hz .i64 .i64 n n (by omega) (Int.le_refl _) (by rw [hb]; omega) (by omega)
  rw [hs, Nat.mul_one] at h
  exact h

/-- the first k shares lie in the block gs, which has room for n -/
def ShrRow (w : World) (gs n k : Nat) (p q : Nat → Int) : Prop := ∃ cs, Bk w gs 23 cs ∧ cs.size = n * 2 ∧ ∀ j, j < k → cs[j * 2]? = some (.int .i64 (p j)) ∧ cs[j * 2 + 1]? = some (.int .i64 (q j))
theorem ShrRow.below {w w' : World} {gs n k : Nat} {p q : Nat → Int} (h : ShrRow w gs n k p q) (hb : w'.heap[gs]? = w.heap[gs]?) : ShrRow w' gs n k p q := by
  obtain ⟨cs, h1, h2, h3⟩ := h
  exact ⟨cs, hb.trans h1, h2, h3⟩
/-- what Ladder's test reads -/
def LadK (g5 gs n : Nat) (p q : Nat → Int) (W : World) : Prop := Bk W g5 32 #[.slice (some ⟨gs, 0, none⟩) n n] ∧ ShrRow W gs n n p q

theorem keepB5 {w w' : World} {p1 p2 p3 p4 p5 : Addr} {v1 v2 v3 v4 v5 : Value} (h : w.cell? p1 = some v1 ∧ w.cell? p2 = some v2 ∧ w.cell? p3 = some v3 ∧ w.cell? p4 = some v4 ∧ w.cell? p5 = some v5) (hb : Below w.heap.size w w') : w'.cell? p1 = some v1 ∧ w'.cell? p2 = some v2 ∧ w'.cell? p3 = some v3 ∧ w'.cell? p4 = some v4 ∧ w'.cell? p5 = some v5 :=
  ⟨keep_below h.1 hb, keep_below h.2.1 hb, keep_below h.2.2.1 hb, keep_below h.2.2.2.1 hb, keep_below h.2.2.2.2 hb⟩

set_option maxHeartbeats 1000000 in
theorem ladder1_any (g5 gs n : Nat) (p q : Nat → Int) (hp : ∀ i, p i ≤ 9223372036854775807 ∧ q i ≤ 9223372036854775807) (x y : Int) (W : World) (hK : LadK g5 gs n p q W) (hx : Shr.okI n x) (hy : Shr.okI n y) :
    Calls Try.prog 42 (#[.int .i64 x, .int .i64 y] ++ #[.pointer (some ⟨g5, 0, none⟩)]) W fun e w' => e = .returned (.int .i64 (Shr.cmpI p q x y)) ∧ Below W.heap.size W w' := by
  obtain ⟨i, hi, rfl⟩ := hx
  obtain ⟨j, hj, rfl⟩ := hy
  obtain ⟨h5, cs, hs, hsz, hcs⟩ := hK
  have c0 := h5.cell (i := 0) rfl
  have a0 : W.cell? ⟨gs, i * 2, none⟩ = some (.int .i64 (p i)) := hs.cell (hcs i hi).1
  have a1 : W.cell? ⟨gs, i * 2 + 1, none⟩ = some (.int .i64 (q i)) := hs.cell (hcs i hi).2
  have b0 : W.cell? ⟨gs, j * 2, none⟩ = some (.int .i64 (p j)) := hs.cell (hcs j hj).1
  have b1 : W.cell? ⟨gs, j * 2 + 1, none⟩ = some (.int .i64 (q j)) := hs.cell (hcs j hj).2
  have C := Lib.hid (fun W => compare_any (p i) (q i) (p j) (q j) (hp i).1 (hp i).2 (hp j).1 (hp j).2 W)
  have e : Shr.cmpI p q i j = Shr.cmp (p i) (q i) (p j) (q j) := by unfold Shr.cmpI; simp
  rw [e]
  clear hp hs hcs e
  generalize Shr.cmp (p i) (q i) (p j) (q j) = r at *
  generalize p i = pi at *
  generalize q i = qi at *
  generalize p j = pj at *
  generalize q j = qj at *
  have n0 : (0 : Int) ≤ (i : Int) := by omega
  have n1 : (i : Int) < (n : Int) := by omega
  have n2 : (0 : Int) ≤ (j : Int) := by omega
  have n3 : (j : Int) < (n : Int) := by omega
  show Calls _ _ #[.int .i64 i, .int .i64 j, .pointer (some ⟨g5, 0, none⟩)] _ _
  go_enter Try.func42, Try.ntmps42
  go_upto_region 1 with fail
  go_region_held3 (fun w' => w'.cell? ⟨g5, 0, none⟩ = some (.slice (some ⟨gs, 0, none⟩) n n) ∧ w'.cell? ⟨gs, i * 2, none⟩ = some (.int .i64 pi) ∧ w'.cell? ⟨gs, i * 2 + 1, none⟩ = some (.int .i64 qi) ∧ w'.cell? ⟨gs, j * 2, none⟩ = some (.int .i64 pj) ∧ w'.cell? ⟨gs, j * 2 + 1, none⟩ = some (.int .i64 qj)) (first | (refine ⟨?_, ?_, ?_, ?_, ?_⟩ <;> assumption) | assumption | exact keepB5 (by assumption) (by assumption)) (first | (go_at_call 17; refine (C.out _).mono ?_; rintro e w' ⟨rfl, hb⟩))
  all_goals
    go_wp2_with fail
    go_ret
    exact ⟨rfl, below_pass (Below.refl W.heap.size W).drew (Nat.le_refl _) hb⟩

/-- n amounts that can be read -/
def VecRow (w : World) (bl off n : Nat) (v : Nat → Nat → Int) : Prop := ∀ i, i < n → ∀ j, j < 4 → w.cell? ⟨bl, off + i * 4 + j, none⟩ = some (.int .i64 (v i j))
def domP (v : Nat → Nat → Int) (u0 u1 u2 u3 : Int) (i : Nat) : Int := (Shr.dom (Shr.four (v i 0) (v i 1) (v i 2) (v i 3)) (Shr.four u0 u1 u2 u3)).n
def domQ (v : Nat → Nat → Int) (u0 u1 u2 u3 : Int) (i : Nat) : Int := (Shr.dom (Shr.four (v i 0) (v i 1) (v i 2) (v i 3)) (Shr.four u0 u1 u2 u3)).d

theorem ShrRow.old {w : World} {gs n k : Nat} {p q : Nat → Int} (h : ShrRow w gs n k p q) {i : Nat} (hi : i < n) : (∃ o, w.cell? ⟨gs, i * 2, none⟩ = some o) ∧ (∃ o, w.cell? ⟨gs, i * 2 + 1, none⟩ = some o) ∧ w.frozen? ⟨gs, i * 2, none⟩ = false ∧ w.frozen? ⟨gs, i * 2 + 1, none⟩ = false := by
  obtain ⟨cs, h1, h2, _⟩ := h
  exact ⟨⟨_, h1.cell (Array.getElem?_eq_getElem (show i * 2 < cs.size by omega))⟩, ⟨_, h1.cell (Array.getElem?_eq_getElem (show i * 2 + 1 < cs.size by omega))⟩, h1.free _, h1.free _⟩
theorem ShrRow.push {w : World} {gs n i : Nat} {p q : Nat → Int} (h : ShrRow w gs n i p q) (hi : i < n) : ShrRow ((w.setCell ⟨gs, i * 2, none⟩ (.int .i64 (p i))).setCell ⟨gs, i * 2 + 1, none⟩ (.int .i64 (q i))) gs n (i + 1) p q := by
  obtain ⟨cs, h1, h2, h3⟩ := h
  refine ⟨_, (h1.set _ _).set _ _, by simp [h2], fun j hj => ?_⟩
  by_cases e : j = i
  · subst e
    rw [Array.getElem?_setIfInBounds, Array.getElem?_setIfInBounds, Array.getElem?_setIfInBounds]
    rw [if_neg (by omega), if_pos rfl, if_pos (by omega), if_pos rfl, if_pos (by simp; omega)]
    exact ⟨rfl, rfl⟩
  · have := h3 j (by omega)
    rw [Array.getElem?_setIfInBounds, Array.getElem?_setIfInBounds, Array.getElem?_setIfInBounds, Array.getElem?_setIfInBounds]
    rw [if_neg (by omega), if_neg (by omega), if_neg (by omega), if_neg (by omega)]
    exact this
/-- the first k places, each its own number -/
def NumRow (w : World) (g n k : Nat) : Prop := ∃ ds, Bk w g 3 ds ∧ ds.size = n ∧ ∀ j : Nat, j < k → ds[j]? = some (.int .i64 (j : Int))
theorem NumRow.below {w w' : World} {g n k : Nat} (h : NumRow w g n k) (hb : w'.heap[g]? = w.heap[g]?) : NumRow w' g n k := by
  obtain ⟨cs, h1, h2, h3⟩ := h
  exact ⟨cs, hb.trans h1, h2, h3⟩
theorem NumRow.lt {w : World} {g n k : Nat} (h : NumRow w g n k) : g < w.heap.size := by
  obtain ⟨cs, h1, _⟩ := h
  exact h1.lt
theorem NumRow.old {w : World} {g n k : Nat} (h : NumRow w g n k) {i : Nat} (hi : i < n) : (∃ o, w.cell? ⟨g, i, none⟩ = some o) ∧ w.frozen? ⟨g, i, none⟩ = false := by
  obtain ⟨cs, h1, h2, _⟩ := h
  exact ⟨⟨_, h1.cell (Array.getElem?_eq_getElem (show i < cs.size by omega))⟩, h1.free _⟩
theorem NumRow.push {w : World} {g n i : Nat} (h : NumRow w g n i) (hi : i < n) : NumRow (w.setCell ⟨g, i, none⟩ (.int .i64 (i : Int))) g n (i + 1) := by
  obtain ⟨cs, h1, h2, h3⟩ := h
  refine ⟨_, h1.set _ _, by simp [h2], fun j hj => ?_⟩
  rw [Array.getElem?_setIfInBounds]
  by_cases e : i = j
  · rw [if_pos e, if_pos (by omega), e]
  · rw [if_neg e]
    exact h3 j (by omega)

set_option maxRecDepth 100000 in
set_option maxHeartbeats 4000000 in
theorem ladder_any (A0 : Option Addr) (bl off n c : Nat) (hA0 : 0 < n → A0 = some ⟨bl, off, none⟩) (v : Nat → Nat → Int) (u0 u1 u2 u3 : Int) (hn : n ≤ 1000000) (hv : ∀ i j, v i j ≤ 9223372036854775807) (hu : u0 ≤ 9223372036854775807 ∧ u1 ≤ 9223372036854775807 ∧ u2 ≤ 9223372036854775807 ∧ u3 ≤ 9223372036854775807) (w : World) (hrow : VecRow w bl off n v) :
    Calls Try.prog 25 #[.slice A0 n c, .agg #[.int .i64 u0, .int .i64 u1, .int .i64 u2, .int .i64 u3]] w fun e w' => ∃ g d, e = .returned (.slice (some ⟨g, 0, none⟩) n n) ∧ Srt.Sd (Shr.prI (domP v u0 u1 u2 u3) (domQ v u0 u1 u2 u3)) 0 n d ∧ Srt.Val 0 n (fun i => (i : Int)) d ∧ (∀ i, i < n → w'.cell? ⟨g, i, none⟩ = some (.int .i64 (d i))) ∧ Below w.heap.size w w' := by
  have M1 := make_shares n hn
  have M2 := make_ints n hn
  have HROW := Lib.hid hrow
  have HA0 := Lib.hid hA0
  clear hA0
  have HV := Lib.hid hv
  have HU := Lib.hid hu
  have hnn : (n : Int) ≤ 1000000 := by omega
  clear hrow hv hu
  go_enter Try.func25, Try.ntmps25
  go_wp2_with fail
  go_loopg [17] n (fun g s17 wr => ∃ i : Nat, i ≤ n ∧ g = n - i ∧ s17 = .int .i64 i ∧ Bk wr w.heap.size 28 #[.int .i64 u0, .int .i64 u1, .int .i64 u2, .int .i64 u3] ∧ Hid (ShrRow wr (w.heap.size + 1) n i (domP v u0 u1 u2 u3) (domQ v u0 u1 u2 u3)) ∧
    Bk wr (w.heap.size + 2) 32 #[.slice (some ⟨w.heap.size + 1, 0, none⟩) n n] ∧ Hid (NumRow wr (w.heap.size + 3) n i) ∧ Below w.heap.size w wr)
  case atStart =>
    refine ⟨0, by omega, by omega, rfl, (((Bk.newAt rfl).alloc _).alloc _).alloc _, Lib.hid ⟨_, ((Bk.newAt (by simp)).alloc _).alloc _, size_madeCells _ _, fun j hj => by omega⟩, (Bk.newAt (by simp)).alloc _, Lib.hid ⟨_, Bk.newAt (by simp), size_madeCells _ _, fun j hj => by omega⟩, ?_⟩
    exact ((((Below.refl w.heap.size w).alloc (Nat.le_refl _) _).alloc (by simp) _).alloc (by simp; omega) _).alloc (by simp; omega) _
  case round =>
    obtain ⟨i, hi, hg, rfl, K0, R1, K2, R3, hB⟩ := hrel
    by_cases hlt : i < n
    · have hAe := HA0.out (by omega)
      subst hAe
      have r0 : wr.cell? ⟨bl, off + i * 4, none⟩ = some (.int .i64 (v i 0)) := keep_below (HROW.out i hlt 0 (by omega)) hB
      have r1 : wr.cell? ⟨bl, off + i * 4 + 1, none⟩ = some (.int .i64 (v i 1)) := keep_below (HROW.out i hlt 1 (by omega)) hB
      have r2 : wr.cell? ⟨bl, off + i * 4 + 2, none⟩ = some (.int .i64 (v i 2)) := keep_below (HROW.out i hlt 2 (by omega)) hB
      have r3 : wr.cell? ⟨bl, off + i * 4 + 3, none⟩ = some (.int .i64 (v i 3)) := keep_below (HROW.out i hlt 3 (by omega)) hB
      have C := Lib.hid (fun W => dominant_any (v i 0) (v i 1) (v i 2) (v i 3) u0 u1 u2 u3 (HV.out i 0) (HV.out i 1) (HV.out i 2) (HV.out i 3) HU.out.1 HU.out.2.1 HU.out.2.2.1 HU.out.2.2.2 W)
      have eP : Hid ((Shr.dom (Shr.four (v i 0) (v i 1) (v i 2) (v i 3)) (Shr.four u0 u1 u2 u3)).n = domP v u0 u1 u2 u3 i) := Lib.hid rfl
      have eQ : Hid ((Shr.dom (Shr.four (v i 0) (v i 1) (v i 2) (v i 3)) (Shr.four u0 u1 u2 u3)).d = domQ v u0 u1 u2 u3 i) := Lib.hid rfl
      rw [eP.out, eQ.out] at C
      clear eP eQ
      generalize (Shr.dom (Shr.four (v i 0) (v i 1) (v i 2) (v i 3)) (Shr.four u0 u1 u2 u3)).at_ = qa at *
      obtain ⟨qn, hqn⟩ : ∃ qn, Hid (domP v u0 u1 u2 u3 i = qn) := ⟨_, Lib.hid rfl⟩
      obtain ⟨qd, hqd⟩ : ∃ qd, Hid (domQ v u0 u1 u2 u3 i = qd) := ⟨_, Lib.hid rfl⟩
      rw [hqn.out, hqd.out] at C
      generalize v i 0 = x0 at *
      generalize v i 1 = x1 at *
      generalize v i 2 = x2 at *
      generalize v i 3 = x3 at *
      have i0 : (0 : Int) ≤ (i : Int) := by omega
      have i1 : (i : Int) < (n : Int) := by omega
      have k00 : ∀ o, (wr.alloc o).cell? ⟨w.heap.size, 0, none⟩ = some (.int .i64 u0) := fun o => keep_alloc (K0.cell (i := 0) rfl)
      have k01 : ∀ o, (wr.alloc o).cell? ⟨w.heap.size, 1, none⟩ = some (.int .i64 u1) := fun o => keep_alloc (K0.cell (i := 1) rfl)
      have k02 : ∀ o, (wr.alloc o).cell? ⟨w.heap.size, 2, none⟩ = some (.int .i64 u2) := fun o => keep_alloc (K0.cell (i := 2) rfl)
      have k03 : ∀ o, (wr.alloc o).cell? ⟨w.heap.size, 3, none⟩ = some (.int .i64 u3) := fun o => keep_alloc (K0.cell (i := 3) rfl)
      have k20 : ∀ o, (wr.alloc o).cell? ⟨w.heap.size + 2, 0, none⟩ = some (.slice (some ⟨w.heap.size + 1, 0, none⟩) n n) := fun o => keep_alloc (K2.cell (i := 0) rfl)
      go_upto_region 6 with fail

      go_cut [] (fun wx => Hid (ShrRow wx (w.heap.size + 1) n (i + 1) (domP v u0 u1 u2 u3) (domQ v u0 u1 u2 u3)) ∧ Bk wx w.heap.size 28 #[.int .i64 u0, .int .i64 u1, .int .i64 u2, .int .i64 u3] ∧
        Bk wx (w.heap.size + 2) 32 #[.slice (some ⟨w.heap.size + 1, 0, none⟩) n n] ∧ Hid (NumRow wx (w.heap.size + 3) n i) ∧ Below w.heap.size w wx)
      case first =>
        go_region_with (go_at_call 19; refine (C.out _).mono ?_; rintro e w3 ⟨rfl, hb⟩; have hBx := below_pass (hB.alloc hB.size _).drew (Nat.le_trans hB.size (by simp)) hb; have Rx := (R1.out.below (Below.heap_alloc wr _ _ (R1.out.choose_spec.1.lt))).below (hb.block _ (by simp; have := R1.out.choose_spec.1.lt; omega)); obtain ⟨⟨o1, ho1⟩, ⟨o2, ho2⟩, hf1, hf2⟩ := Rx.old hlt; have k2x : w3.cell? ⟨w.heap.size + 2, 0, none⟩ = some (.slice (some ⟨w.heap.size + 1, 0, none⟩) n n) := ((K2.alloc _).drew.pass hb).cell (i := 0) rfl)
        all_goals
          go_wp2_with fail
          go_meet
          have hpush := Rx.push hlt
          rw [hqn.out, hqd.out] at hpush
          have hK0 := (K0.alloc _).drew.pass hb
          have hK2 := (K2.alloc _).drew.pass hb
          have h3 := R3.out.lt
          have hR3 := (R3.out.below (Below.heap_alloc wr _ _ h3)).below (hb.block _ (show w.heap.size + 3 < (wr.alloc _).drew.heap.size by simp; omega))
          exact ⟨Lib.hid hpush, (hK0.far (by simp) _).far (by simp) _, (hK2.far (by simp) _).far (by simp) _, Lib.hid ((hR3.below (Below.heap_setCell _ _ _ _ (by simp))).below (Below.heap_setCell _ _ _ _ (by simp))), (hBx.setCell (by simp) _).setCell (by simp) _⟩
      case rest =>
        obtain ⟨R1', K0', K2', R3', hB'⟩ := hcut
        obtain ⟨⟨o1, ho1⟩, hf1⟩ := R3'.out.old hlt
        have hp3 := Lib.hid (R3'.out.push hlt)
        go_wp2_with fail
        go_roundg (n - (i + 1))
        case measure => omega
        case rel => exact ⟨i + 1, by omega, rfl, by go_num, K0'.far (by dsimp only; omega) _, Lib.hid (R1'.out.below (Below.heap_setCell _ _ _ _ (by dsimp only; omega))), K2'.far (by dsimp only; omega) _, hp3, hB'.setCell (by dsimp only; omega) _⟩
    · obtain rfl : i = n := by omega
      have hP : ∀ k, domP v u0 u1 u2 u3 k ≤ 9223372036854775807 ∧ domQ v u0 u1 u2 u3 k ≤ 9223372036854775807 := fun k => by
        have h := Shr.domN_range (Shr.four (v k 0) (v k 1) (v k 2) (v k 3)) (Shr.four u0 u1 u2 u3) (by intro j; unfold Shr.four; split <;> exact HV.out _ _) (by intro j; unfold Shr.four; split <;> first | exact HU.out.1 | exact HU.out.2.1 | exact HU.out.2.2.1 | exact HU.out.2.2.2) 4
        unfold domP domQ Shr.dom
        omega
      have E : Env Try.prog 42 #[.pointer (some ⟨w.heap.size + 1 + 1, 0, none⟩)] (Shr.cmpI (domP v u0 u1 u2 u3) (domQ v u0 u1 u2 u3)) (Shr.okI i) (LadK (w.heap.size + 2) (w.heap.size + 1) i (domP v u0 u1 u2 u3) (domQ v u0 u1 u2 u3)) w w.heap.size (w.heap.size + 1 + 1 + 1) := by
        refine ⟨enters_of Try.func42 (by kernel_rfl) rfl, fun W W' hK hb hs => ⟨(hb _ (by omega) hK.1.lt).trans hK.1, hK.2.below (hb _ (by omega) hK.2.choose_spec.1.lt)⟩, fun x y W hK hx hy => ladder1_any _ _ _ _ _ hP x y W hK hx hy, by omega, Nat.le_refl _⟩
      have S : SS (LadK (w.heap.size + 2) (w.heap.size + 1) i (domP v u0 u1 u2 u3) (domQ v u0 u1 u2 u3)) w w.heap.size (w.heap.size + 1 + 1 + 1) 0 i 3 (fun k => (k : Int)) wr := by
        obtain ⟨ds, h1, h2, h3⟩ := R3.out
        exact ⟨⟨ds, h1, fun k hk => by rw [Nat.zero_add]; exact h3 k hk⟩, ⟨K2, R1.out⟩, hB⟩
      have C := Lib.hid (sortStable_any E (Shr.ordI _ _ _) i hn (fun k => (k : Int)) (fun k hk => ⟨k, hk, rfl⟩) (fun p q _ h _ => by show (p : Int) < (q : Int); omega) wr S)
      clear E S
      go_wp2_with fail
      refine C.out.mono ?_
      rintro e w2 ⟨rfl, d, h1, h2, h3⟩
      go_wp2_with fail
      go_ret
      exact ⟨_, d, rfl, h1, h2, fun k hk => by have h := h3.cell hk; rwa [Nat.zero_add] at h, h3.bel⟩
end Go.Proofs.Ytnjgkgnjbmfpfaa
