/- The reference's bad: does a job wait for one that was finished not well? -/
import Derived.Test.YtecimlbdcldkdaaRg
namespace Go.Proofs.Ytecimlbdcldkdaa
open Go.RowKit Go.Maps Dep

/-- all that lay below B reads as in W -/
theorem keepW {w0 W w w' : World} {B : Nat} (hb : Below w.heap.size w w') (h : Below w0.heap.size w0 w ∧ B ≤ w.heap.size ∧ ∀ b o, b < B → w.cell? ⟨b, o, none⟩ = W.cell? ⟨b, o, none⟩) : Below w0.heap.size w0 w' ∧ B ≤ w'.heap.size ∧ ∀ b o, b < B → w'.cell? ⟨b, o, none⟩ = W.cell? ⟨b, o, none⟩ :=
  ⟨below_pass h.1 h.1.size hb, Nat.le_trans h.2.1 hb.size, fun b o hlt => (World.cell?_of_block (hb.block b (Nat.lt_of_lt_of_le hlt h.2.1))).trans (h.2.2 b o hlt)⟩
theorem keepWa {w0 W w : World} {B : Nat} {o : Obj} (h : Below w0.heap.size w0 w ∧ B ≤ w.heap.size ∧ ∀ b o, b < B → w.cell? ⟨b, o, none⟩ = W.cell? ⟨b, o, none⟩) : Below w0.heap.size w0 (w.alloc o) ∧ B ≤ (w.alloc o).heap.size ∧ ∀ b q, b < B → (w.alloc o).cell? ⟨b, q, none⟩ = W.cell? ⟨b, q, none⟩ :=
  ⟨h.1.alloc h.1.size _, Nat.le_trans h.2.1 (by simp), fun b q hlt => (World.cell?_of_block (Below.heap_alloc w o b (Nat.lt_of_lt_of_le hlt h.2.1))).trans (h.2.2 b q hlt)⟩
theorem keepWs {w0 W w : World} {B : Nat} {p : Addr} {v : Value} (h : Below w0.heap.size w0 w ∧ B ≤ w.heap.size ∧ ∀ b o, b < B → w.cell? ⟨b, o, none⟩ = W.cell? ⟨b, o, none⟩) (h1 : B ≤ p.block) (h2 : w0.heap.size ≤ p.block) : Below w0.heap.size w0 (w.setCell p v) ∧ B ≤ (w.setCell p v).heap.size ∧ ∀ b q, b < B → (w.setCell p v).cell? ⟨b, q, none⟩ = W.cell? ⟨b, q, none⟩ :=
  ⟨h.1.setCell h2 _, Nat.le_trans h.2.1 (by simp), fun b q hlt => (World.cell?_of_block (Below.heap_setCell w p v b (by omega))).trans (h.2.2 b q hlt)⟩
theorem keepWd {w0 W w : World} {B : Nat} (h : Below w0.heap.size w0 w ∧ B ≤ w.heap.size ∧ ∀ b o, b < B → w.cell? ⟨b, o, none⟩ = W.cell? ⟨b, o, none⟩) : Below w0.heap.size w0 w.drew ∧ B ≤ w.drew.heap.size ∧ ∀ b o, b < B → w.drew.cell? ⟨b, o, none⟩ = W.cell? ⟨b, o, none⟩ :=
  ⟨h.1.drew, h.2.1, fun b o hlt => h.2.2 b o hlt⟩

def BadR (r : RS) (nj : Nat) (ej : Nat → Int) : Prop := ∃ j, j < nj ∧ ∃ k, k < r.N ∧ (r.id k : Int) = ej j ∧ r.ov k = true ∧ r.wl k = false

set_option maxRecDepth 100000 in
set_option maxHeartbeats 4000000 in
theorem rbad_any {w : World} {A : Option Addr} {r : RS} (hJ : JobsIn w A r) (hr : RW r) (hN : r.N ≤ 1000) (n cap : Nat) (hn : n = r.N) (x : Int) (Aj : Option Addr) (nj cj : Nat) (ej : Nat → Int) (ov wl : Bool) (hA : IntsIn w Aj nj ej) (hn20 : nj ≤ 20) (haf : ∀ j, j < nj → ∃ k, k < r.N ∧ (r.id k : Int) = ej j) :
    Calls Try.prog 36 #[.agg #[.slice A n cap], .agg #[.int .i64 x, .slice Aj nj cj, .bool ov, .bool wl]] w fun e w' => (∃ b, e = .returned (.bool b) ∧ (b = true ↔ BadR r nj ej)) ∧ Below w.heap.size w w' := by
  have H := Lib.hid (show _ ∧ _ ∧ _ ∧ _ from ⟨hJ, hA.2.1, hr, haf⟩)
  have HN := Lib.hid hn
  have hn1 : (n : Int) ≤ 1000 := by omega
  clear hJ hn hA hr haf
  go_enter Try.func36, Try.ntmps36
  go_wp2_with fail
  go_loopg [5] nj (fun g s5 wr => ∃ j : Nat, j ≤ nj ∧ g = nj - j ∧ s5 = .int .i64 j ∧ Hid ((∀ q, q < j → ¬ ∃ k, k < r.N ∧ (r.id k : Int) = ej q ∧ r.ov k = true ∧ r.wl k = false) ∧ Bk wr w.heap.size 50 #[.slice A n cap] ∧ Bk wr (w.heap.size + 1) 57 #[.int .i64 x, .slice Aj nj cj, .bool ov, .bool wl] ∧ Below w.heap.size w wr))
  case atStart => exact ⟨0, by omega, by omega, rfl, Lib.hid ⟨fun j hj => by omega, (Bk.new w _ _).alloc _, Bk.newAt (by simp), ((Below.refl _ _).alloc (Nat.le_refl _) _).alloc (by simp) _⟩⟩
  case round =>
    obtain ⟨j, hj, hg, rfl, HI⟩ := hrel
    have cb : wr.cell? ⟨w.heap.size, 0, none⟩ = some (.slice A n cap) := HI.out.2.1.cell rfl
    have cj1 : wr.cell? ⟨w.heap.size + 1, 1, none⟩ = some (.slice Aj nj cj) := HI.out.2.2.1.cell rfl
    have j0 : (0 : Int) ≤ (j : Int) := by omega
    by_cases hlt : j < nj
    · have j1 : (j : Int) < (nj : Int) := by omega
      obtain ⟨g2, o2, rfl, hc2⟩ := H.out.2.1 (by omega)
      have hg2 : g2 < w.heap.size := World.block_lt_of_cell? w ⟨g2, o2 + j, none⟩ (hc2 j hlt)
      have ce := (World.cell?_of_block (HI.out.2.2.2.block g2 hg2)).trans (hc2 j hlt)
      clear hc2
      obtain ⟨k, hk, hke⟩ := H.out.2.2.2 j hlt
      have HK := Lib.hid hke.symm
      obtain ⟨bl, off, rfl, hc⟩ := H.out.1 (by omega)
      obtain ⟨y, hy⟩ : ∃ y, Hid ((r.id k : Int) = y) := ⟨_, Lib.hid rfl⟩
      rw [← hke, hy.out] at ce
      clear hke
      have hbl := (hc k hk).lt
      have hat := (hc k hk).keep (HI.out.2.2.2.block bl (hc k hk).lt)
      have k0c := hat.c0
      have k1c := hat.c1
      have k2c := hat.c2
      have k3c := hat.c3
      clear hat hc
      obtain ⟨Ak, hAk⟩ : ∃ b, Hid (r.A k = b) := ⟨_, Lib.hid rfl⟩
      obtain ⟨nk, hnk⟩ : ∃ b, Hid (r.n k = b) := ⟨_, Lib.hid rfl⟩
      obtain ⟨ck, hck⟩ : ∃ b, Hid (r.c k = b) := ⟨_, Lib.hid rfl⟩
      obtain ⟨ok, hok⟩ : ∃ b, Hid (r.ov k = b) := ⟨_, Lib.hid rfl⟩
      obtain ⟨wk, hwk⟩ : ∃ b, Hid (r.wl k = b) := ⟨_, Lib.hid rfl⟩
      rw [hy.out] at k0c
      rw [hAk.out, hnk.out, hck.out] at k1c
      rw [hok.out] at k2c
      rw [hwk.out] at k3c
      have k0 : (0 : Int) ≤ (k : Int) := by omega
      have k1 : (k : Int) < (n : Int) := by have := HN.out; omega
      have CA := Lib.hid (fun (W : World) (hW : Below wr.heap.size wr W) => (at_any (w := W) (A := some ⟨bl, off, none⟩) (H.out.1.keep (below_pass HI.out.2.2.2 HI.out.2.2.2.size hW)) hN n cap HN.out y).mono (R' := fun e w' => e = .returned (.int .i64 (k : Int)) ∧ Below W.heap.size W w') fun e w' hq => by
        obtain ⟨⟨z, rfl, hz⟩, hb⟩ := hq
        rw [hz.some H.out.2.2.1 hk hy.out]
        exact ⟨rfl, hb⟩)
      obtain ⟨B, hBB⟩ : ∃ B, Hid (wr.heap.size = B) := ⟨_, Lib.hid rfl⟩
      have l0 : w.heap.size < B := by rw [← hBB.out]; exact HI.out.2.1.lt
      have l1 : w.heap.size + 1 < B := by rw [← hBB.out]; exact HI.out.2.2.1.lt
      have l2 : g2 < B := by omega
      have l3 : bl < B := by omega
      have hst : Below wr.heap.size wr wr.drew ∧ B ≤ wr.drew.heap.size ∧ ∀ b o, b < B → wr.drew.cell? ⟨b, o, none⟩ = wr.cell? ⟨b, o, none⟩ := ⟨(Below.refl _ _).drew, by rw [← hBB.out]; exact Nat.le_refl _, fun _ _ _ => rfl⟩
      have hsta : ∀ o, Below wr.heap.size wr (wr.alloc o).drew ∧ B ≤ (wr.alloc o).drew.heap.size ∧ ∀ b q, b < B → (wr.alloc o).drew.cell? ⟨b, q, none⟩ = wr.cell? ⟨b, q, none⟩ := fun o => ⟨((Below.refl _ _).alloc (Nat.le_refl _) _).drew, by rw [← hBB.out]; simp, fun b q hb => World.cell?_of_block (Below.heap_alloc wr o b (by rw [hBB.out]; exact hb))⟩
      go_upto_region 4 with fail
      go_cut [6] (fun s6 wx => ∃ gb, s6 = .pointer (some ⟨gb, 0, none⟩) ∧ Hid (Bk wx gb 57 #[.int .i64 y, .slice Ak nk ck, .bool ok, .bool wk] ∧ Below wr.heap.size wr wx))
      case first =>
        go_region_held3 (fun w' => Below wr.heap.size wr w' ∧ B ≤ w'.heap.size ∧ ∀ b o, b < B → w'.cell? ⟨b, o, none⟩ = wr.cell? ⟨b, o, none⟩) (first | exact hst | exact hsta _ | assumption | exact keepWd (by first | exact hst | exact hsta _ | assumption) | exact keepW (by assumption) (by first | exact hst | exact hsta _ | assumption | exact keepWa (by first | exact hst | exact hsta _ | assumption)) | exact keepWa (by first | exact hst | exact hsta _ | assumption | exact keepW (by assumption) (by first | exact hst | exact hsta _ | assumption)) | (refine keepWs (keepWs (keepWs (keepWs (by first | exact hst | exact hsta _ | assumption | exact keepW (by assumption) (by first | exact hst | exact hsta _ | assumption)) ?_ ?_) ?_ ?_) ?_ ?_) ?_ ?_ <;> (have hBo := hBB.out; dsimp only; omega))) (first | (go_at_call 35; refine (CA.out _ (And.left (by assumption))).mono ?_; rintro e w2 ⟨rfl, hb⟩; have hsz2 : B ≤ w2.heap.size := (by first | exact Nat.le_trans (Nat.le_of_eq hBB.out.symm) hb.size | exact Nat.le_trans (by rw [← hBB.out]; simp) hb.size); first | (have q := (Bk.new wr 57 #[.int .i64 0, .slice none 0 0, .bool false, .bool false]).drew.pass hb; have q0 := q.cell (i := 0) rfl; have q1 := q.cell (i := 1) rfl; have q2 := q.cell (i := 2) rfl; have q3 := q.cell (i := 3) rfl; have f0 := q.free 0; have f1 := q.free 1; have f2 := q.free 2; have f3 := q.free 3) | skip))
        all_goals
          go_wp2_with fail
          go_meet
          have hBo := hBB.out
          first
          | exact ⟨wr.heap.size, rfl, Lib.hid ⟨(((q.set 0 _).set 1 _).set 2 _).set 3 _, And.left (by assumption)⟩⟩
          | exact ⟨w2.heap.size, rfl, Lib.hid ⟨Bk.new w2 _ _, And.left (by assumption)⟩⟩
          | exact ⟨w2.heap.size, rfl, Lib.hid ⟨Bk.new w2 _ _, And.left (keepWa (keepW hb (by assumption)))⟩⟩
      case rest =>
        obtain ⟨gb, rfl, HC⟩ := hcut
        have g2c : wc.cell? ⟨gb, 2, none⟩ = some (.bool ok) := HC.out.1.cell rfl
        have g3c : wc.cell? ⟨gb, 3, none⟩ = some (.bool wk) := HC.out.1.cell rfl
        clear cb cj1 ce k0c k1c k2c k3c hst hsta CA
        have HB := Lib.hid (below_pass HI.out.2.2.2 HI.out.2.2.2.size HC.out.2)
        by_cases hbad : ok = true ∧ wk = false
        · obtain ⟨rfl, rfl⟩ := hbad
          go_wp2_with fail
          go_ret
          exact ⟨⟨true, rfl, fun _ => ⟨j, hlt, k, hk, HK.out.symm, hok.out, hwk.out⟩, fun _ => rfl⟩, HB.out⟩
        · have hnext : Hid (∀ q, q < j + 1 → ¬ ∃ k, k < r.N ∧ (r.id k : Int) = ej q ∧ r.ov k = true ∧ r.wl k = false) := Lib.hid fun q hq => by
            by_cases c : q = j
            · subst c
              rintro ⟨k', hk', h1, h2, h3⟩
              have : k' = k := H.out.2.2.1.inj k' k hk' hk (by have := HK.out; omega)
              rw [this, hok.out] at h2
              rw [this, hwk.out] at h3
              exact hbad ⟨h2, h3⟩
            · exact HI.out.1 q (by omega)
          have HR := Lib.hid (show _ ∧ _ from ⟨HI.out.2.1.pass HC.out.2, HI.out.2.2.1.pass HC.out.2⟩)
          cases ok with
          | false =>
            clear hbad
            go_wp2_with fail
            go_roundg (nj - (j + 1))
            case measure => omega
            case rel => exact ⟨j + 1, by omega, rfl, by go_num, Lib.hid ⟨hnext.out, HR.out.1, HR.out.2, HB.out⟩⟩
          | true =>
            cases wk with
            | false => exact absurd ⟨rfl, rfl⟩ hbad
            | true =>
              clear hbad
              go_wp2_with fail
              go_roundg (nj - (j + 1))
              case measure => omega
              case rel => exact ⟨j + 1, by omega, rfl, by go_num, Lib.hid ⟨hnext.out, HR.out.1, HR.out.2, HB.out⟩⟩
    · obtain rfl : nj = j := by omega
      go_wp2_with fail
      go_ret
      exact ⟨⟨false, rfl, fun h => (by cases h), fun ⟨q, hq, h⟩ => absurd h (HI.out.1 q hq)⟩, HI.out.2.2.2⟩
end Go.Proofs.Ytecimlbdcldkdaa
