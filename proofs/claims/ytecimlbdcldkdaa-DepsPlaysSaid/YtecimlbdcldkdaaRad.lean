/- The reference's Add: a graph with one job more, or why not. -/
import Derived.Test.YtecimlbdcldkdaaErd
namespace Go.Proofs.Ytecimlbdcldkdaa
open Go.RowKit Go.Sort Go.Maps Dep

def RAddSaid (r : RS) (A : Option Addr) (n cap : Nat) (x : Int) (Aj : Option Addr) (nj cj : Nat) (ej : Nat → Int) (w : World) (e : Ending) (w' : World) : Prop :=
  Below w.heap.size w w' ∧
  ((x < 1 ∧ e = .returned (.tuple #[.agg #[.slice A n cap], .bool false, .int .i64 1])) ∨
   (1 ≤ x ∧ (∃ i, i < r.N ∧ (r.id i : Int) = x) ∧ e = .returned (.tuple #[.agg #[.slice A n cap], .bool false, .int .i64 51])) ∨
   (1 ≤ x ∧ (¬ ∃ i, i < r.N ∧ (r.id i : Int) = x) ∧ (∃ j, j < nj ∧ ∀ i, i < r.N → (r.id i : Int) ≠ ej j) ∧ e = .returned (.tuple #[.agg #[.slice A n cap], .bool false, .int .i64 90])) ∨
   (1 ≤ x ∧ (¬ ∃ i, i < r.N ∧ (r.id i : Int) = x) ∧ (∀ j, j < nj → ∃ i, i < r.N ∧ (r.id i : Int) = ej j) ∧ ∃ (k : Nat) (b : Bool) (g k' : Nat), x = (k : Int) ∧ e = .returned (.tuple #[.agg #[.slice (some ⟨g, 0, none⟩) (n + 1) k'], .bool b, .int .i64 0]) ∧ (b = true ↔ BadR r nj ej) ∧ JobsIn w' (some ⟨g, 0, none⟩) (r.add k Aj nj cj ej b) ∧ w.heap.size ≤ g))

set_option maxRecDepth 100000 in
set_option maxHeartbeats 4000000 in
theorem radd_any {w : World} {A : Option Addr} {r : RS} (hJ : JobsIn w A r) (hr : RW r) (hN : r.N ≤ 1000) (n cap : Nat) (hn : n = r.N) (x : Int) (Aj : Option Addr) (nj cj : Nat) (ej : Nat → Int) (hA : IntsIn w Aj nj ej) (hn20 : nj ≤ 20) :
    Calls Try.prog 24 #[.agg #[.slice A n cap], .int .i64 x, .slice Aj nj cj] w (RAddSaid r A n cap x Aj nj cj ej w) := by
  have H := Lib.hid (show _ ∧ _ ∧ _ from ⟨hJ, hA, hr⟩)
  have HN := Lib.hid hn
  have hn1 : (n : Int) ≤ 1000 := by omega
  have hnj : (nj : Int) ≤ 20 := by omega
  have hb0 : Below w.heap.size w ((w.alloc (.cells #[.slice A n cap] 50)).alloc (.cells #[.slice none 0 0] 50)) := ((Below.refl _ _).alloc (Nat.le_refl _) _).alloc (by simp) _
  have C := Lib.hid (at_any (hJ.keep hb0) hN n cap hn x)
  clear hJ hn hA hr
  by_cases hx1 : x < 1
  · clear C
    go_enter Try.func24, Try.ntmps24
    go_wp2_with fail
    exact bodyPost_ret (v := .tuple #[.agg #[.slice A n cap], .bool false, .int .i64 1]) (by simp [results, Try.results24, go_sem]) rfl ⟨by first | exact hb0.setCell (by dsimp only; omega) _ | exact ((Below.refl _ _).alloc (Nat.le_refl _) _).alloc (by simp) _, Or.inl ⟨hx1, rfl⟩⟩
  · go_enter Try.func24, Try.ntmps24
    go_wp2_with fail
    refine C.out.mono ?_
    rintro e w1 ⟨⟨z, rfl, hz⟩, B1⟩
    have H1 := Lib.hid (show Below w.heap.size w w1 ∧ Bk w1 w.heap.size 50 #[.slice A n cap] ∧ Bk w1 (w.heap.size + 1) 50 #[.slice none 0 0] from ⟨hb0.trans (B1.mono (by simp; omega)), ((Bk.new w _ _).alloc _).pass B1, (Bk.newAt (by simp)).pass B1⟩)
    clear B1 C hb0
    have cb : w1.cell? ⟨w.heap.size, 0, none⟩ = some (.slice A n cap) := H1.out.2.1.cell rfl
    have z0 : w1.cell? ⟨w.heap.size + 1, 0, none⟩ = some (.slice none 0 0) := H1.out.2.2.cell rfl
    have f0 := H1.out.2.2.free 0
    by_cases hin : ∃ i, i < r.N ∧ (r.id i : Int) = x
    · obtain ⟨i, hi, hx⟩ := hin
      obtain rfl := hz.some H.out.2.2 hi hx
      have HX := Lib.hid hx
      clear hz hx
      have i0 : (0 : Int) ≤ (i : Int) := by omega
      go_wp2_with fail
      exact bodyPost_ret (v := .tuple #[.agg #[.slice A n cap], .bool false, .int .i64 51]) (by simp [results, Try.results24, go_sem, z0]) rfl ⟨H1.out.1.setCell (by dsimp only; omega) _, Or.inr (Or.inl ⟨by omega, ⟨i, hi, HX.out⟩, rfl⟩)⟩
    · obtain rfl := hz.none (fun i hi e => hin ⟨i, hi, e⟩)
      have HNO := Lib.hid hin
      clear hin hz
      go_wp2_with fail
      go_loopg [9] nj (fun g s9 wr => ∃ j : Nat, j ≤ nj ∧ g = nj - j ∧ s9 = .int .i64 j ∧ Hid ((∀ q, q < j → ∃ i, i < r.N ∧ (r.id i : Int) = ej q) ∧ Below w.heap.size w wr ∧ Bk wr w.heap.size 50 #[.slice A n cap] ∧ Bk wr (w.heap.size + 1) 50 #[.slice none 0 0]))
      case atStart => exact ⟨0, by omega, by omega, rfl, Lib.hid ⟨fun j hj => by omega, H1.out⟩⟩
      case round =>
        clear cb z0 f0 H1
        obtain ⟨j, hj, hg, rfl, HI⟩ := hrel
        have cb : wr.cell? ⟨w.heap.size, 0, none⟩ = some (.slice A n cap) := HI.out.2.2.1.cell rfl
        have z0 : wr.cell? ⟨w.heap.size + 1, 0, none⟩ = some (.slice none 0 0) := HI.out.2.2.2.cell rfl
        have f0 := HI.out.2.2.2.free 0
        have j0 : (0 : Int) ≤ (j : Int) := by omega
        by_cases hlt : j < nj
        · have j1 : (j : Int) < (nj : Int) := by omega
          obtain ⟨g2, o2, rfl, hc2⟩ := H.out.2.1.2.1 (by omega)
          have ce := (World.cell?_of_block (HI.out.2.1.block g2 (World.block_lt_of_cell? w ⟨g2, o2 + j, none⟩ (hc2 j hlt)))).trans (hc2 j hlt)
          clear hc2
          obtain ⟨y, hy⟩ : ∃ y, Hid (ej j = y) := ⟨_, Lib.hid rfl⟩
          rw [hy.out] at ce
          have hBd : Below w.heap.size w wr.drew := HI.out.2.1.drew
          have CA := Lib.hid (at_any (w := wr.drew) (H.out.1.keep hBd) hN n cap HN.out y)
          clear hBd
          by_cases hin : ∃ i, i < r.N ∧ (r.id i : Int) = y
          · have hq : ∃ q : Nat, q < r.N ∧ (r.id q : Int) = y := hin
            obtain ⟨q, hq, hqy⟩ := hq
            have CA2 := Lib.hid (CA.out.mono (R' := fun e w' => e = .returned (.int .i64 (q : Int)) ∧ Below wr.drew.heap.size wr.drew w') fun e w' hq2 => by
              obtain ⟨⟨z, rfl, hz⟩, hb⟩ := hq2
              rw [hz.some H.out.2.2 hq hqy]
              exact ⟨rfl, hb⟩)
            have HQ := Lib.hid hin
            have q0 : (0 : Int) ≤ (q : Int) := by omega
            clear hin CA hqy hq
            go_upto_region 8 with fail
            go_region_held3 (fun w' => w'.cell? ⟨w.heap.size, 0, none⟩ = some (.slice A n cap) ∧ w'.cell? ⟨g2, o2 + j, none⟩ = some (.int .i64 y)) (first | (refine ⟨?_, ?_⟩ <;> assumption) | assumption | exact keepB2 (by assumption) (by assumption)) (first | (go_at_call 35; refine CA2.out.mono ?_; rintro e w2 ⟨rfl, hb2⟩))
            all_goals
              have HB2 := Lib.hid (((Below.refl _ wr).drew).trans hb2)
              go_wp2_with fail
              go_roundg (nj - (j + 1))
              case measure => omega
              case rel =>
                refine ⟨j + 1, by omega, rfl, by go_num, Lib.hid ⟨fun p hp => ?_, below_pass HI.out.2.1 HI.out.2.1.size HB2.out, HI.out.2.2.1.pass HB2.out, HI.out.2.2.2.pass HB2.out⟩⟩
                by_cases c : p = j
                · rw [c, hy.out]; exact HQ.out
                · exact HI.out.1 p (by omega)
          · have CA2 := Lib.hid (CA.out.mono (R' := fun e w' => e = .returned (.int .i64 (-1)) ∧ Below wr.drew.heap.size wr.drew w') fun e w' hq2 => by
              obtain ⟨⟨z, rfl, hz⟩, hb⟩ := hq2
              rw [hz.none fun i hi e => hin ⟨i, hi, e⟩]
              exact ⟨rfl, hb⟩)
            have HQ := Lib.hid hin
            clear hin CA
            go_upto_region 8 with fail
            go_region_held3 (fun w' => w'.cell? ⟨w.heap.size, 0, none⟩ = some (.slice A n cap) ∧ w'.cell? ⟨g2, o2 + j, none⟩ = some (.int .i64 y)) (first | (refine ⟨?_, ?_⟩ <;> assumption) | assumption | exact keepB2 (by assumption) (by assumption)) (first | (go_at_call 35; refine CA2.out.mono ?_; rintro e w2 ⟨rfl, hb2⟩))
            all_goals
              have HB2 := Lib.hid (((Below.refl _ wr).drew).trans hb2)
              have K := HI.out.2.2.2.pass HB2.out
              have z1 : w2.cell? ⟨w.heap.size + 1, 0, none⟩ = some (.slice none 0 0) := K.cell rfl
              have f1 := K.free 0
              go_wp2_with fail
              exact bodyPost_ret (v := .tuple #[.agg #[.slice A n cap], .bool false, .int .i64 90]) (by simp [results, Try.results24, go_sem, z1]) rfl ⟨(below_pass HI.out.2.1 HI.out.2.1.size HB2.out).setCell (by dsimp only; omega) _, Or.inr (Or.inr (Or.inl ⟨by omega, HNO.out, ⟨j, hlt, fun i hi e => HQ.out ⟨i, hi, e.trans hy.out⟩⟩, rfl⟩))⟩
        · obtain rfl : nj = j := by omega
          obtain ⟨k, rfl⟩ : ∃ k : Nat, x = (k : Int) := ⟨x.toNat, by omega⟩
          have hbj : Below wr.heap.size wr (wr.alloc (.cells #[.int .i64 (k : Int), .slice Aj nj cj, .bool false, .bool false] 57)) := (Below.refl _ _).alloc (Nat.le_refl _) _
          have hbw := below_pass HI.out.2.1 HI.out.2.1.size hbj
          have CB := Lib.hid (rbad_any (w := wr.alloc (.cells #[.int .i64 (k : Int), .slice Aj nj cj, .bool false, .bool false] 57)) (H.out.1.keep hbw) H.out.2.2 hN n cap HN.out (k : Int) Aj nj cj ej false false (H.out.2.1.keepR hbw) hn20 HI.out.1)
          have cb2 := HI.out.2.2.1.pass hbj
          have hKj : Bk (wr.alloc (.cells #[.int .i64 (k : Int), .slice Aj nj cj, .bool false, .bool false] 57)) wr.heap.size 57 #[.int .i64 (k : Int), .slice Aj nj cj, .bool false, .bool false] := Bk.new wr _ _
          have hKr := HI.out.2.2.2.pass hbj
          have lg : w.heap.size < wr.heap.size := HI.out.2.2.1.lt
          have lr : w.heap.size + 1 < wr.heap.size := HI.out.2.2.2.lt
          go_wp2_with fail
          refine CB.out.mono ?_
          rintro e w4 ⟨⟨b, rfl, hb⟩, B4⟩
          have H4 := Lib.hid (show _ ∧ _ ∧ _ ∧ _ ∧ _ from ⟨hb, cb2.pass B4, hKj.pass B4, hKr.pass B4, below_pass hbw hbw.size B4⟩)
          clear hb cb2 hKj hKr hbw B4 CB hbj cb z0 f0
          have q2 : w4.cell? ⟨wr.heap.size, 2, none⟩ = some (.bool false) := H4.out.2.2.1.cell rfl
          have q3 := H4.out.2.2.1.free 2
          have hB5 : Below w.heap.size w (w4.setCell ⟨wr.heap.size, 2, none⟩ (.bool b)) := H4.out.2.2.2.2.setCell (by dsimp only; omega) _
          obtain ⟨r5, w5, e5, hE5, hg5⟩ := erAppend jobOk (ER.nil 57 4 jobL (w4.setCell ⟨wr.heap.size, 2, none⟩ (.bool b)) (w4.setCell ⟨wr.heap.size, 2, none⟩ (.bool b)).heap.size) (Nat.le_refl _) cap (by rw [HN.out]; exact jobSrc (H.out.1.keep hB5) : SrcAt 4 jobL _ A n r.jc) (by simp; omega) (fun _ => rfl)
          rw [List.nil_append] at hE5
          obtain ⟨A5, k5, hr5⟩ := hE5.form
          rw [List.length_map, List.length_range] at hr5
          subst hr5
          have E5 := Lib.hid e5
          have K4 : Bk (w4.setCell ⟨wr.heap.size, 2, none⟩ (.bool b)) wr.heap.size 57 #[.int .i64 (k : Int), .slice Aj nj cj, .bool b, .bool false] := H4.out.2.2.1.set 2 _
          have K5 : Bk w5 wr.heap.size 57 #[.int .i64 (k : Int), .slice Aj nj cj, .bool b, .bool false] := (hg5.block _ K4.lt (by simp [Value.ownBlock])).trans K4
          have R4 : Bk (w4.setCell ⟨wr.heap.size, 2, none⟩ (.bool b)) (w.heap.size + 1) 50 #[.slice none 0 0] := H4.out.2.2.2.1.far (by dsimp only; omega) _
          have R5 : Bk w5 (w.heap.size + 1) 50 #[.slice none 0 0] := (hg5.block _ R4.lt (by simp [Value.ownBlock])).trans R4
          have B5 : Below w.heap.size w w5 := hB5.grown hg5 hB5.size fun q hq => by simp [Value.ownBlock] at hq
          have c40 : w4.cell? ⟨w.heap.size, 0, none⟩ = some (.slice A n cap) := H4.out.2.1.cell rfl
          have hs5 : w.heap.size ≤ (w4.setCell ⟨wr.heap.size, 2, none⟩ (.bool b)).heap.size := hB5.size
          have hs6 := hg5.size
          have s40 : (w4.setCell ⟨wr.heap.size, 2, none⟩ (.bool b)).heap.size = w4.heap.size := by simp
          have hl4 := H4.out.2.2.1.lt
          rw [s40] at hE5 hs5 hs6
          clear e5 hg5 K4 R4 hB5
          have p0 : w5.cell? ⟨wr.heap.size, 0, none⟩ = some (.int .i64 (k : Int)) := K5.cell rfl
          have p1 : w5.cell? ⟨wr.heap.size, 1, none⟩ = some (.slice Aj nj cj) := K5.cell rfl
          have p2 : w5.cell? ⟨wr.heap.size, 2, none⟩ = some (.bool b) := K5.cell rfl
          have p3 : w5.cell? ⟨wr.heap.size, 3, none⟩ = some (.bool false) := K5.cell rfl
          have H5 := Lib.hid (show _ ∧ _ ∧ _ ∧ _ ∧ _ ∧ _ from ⟨hE5, hs5, hs6, K5, R5, B5⟩)
          clear hE5 K5 R5 B5
          go_upto_region 14 with (at_builtin; refine wpList_append_eq E5.out _ _ rfl rfl rfl rfl rfl ?_)
          clear q2 q3 c40 s40 E5
          go_upto_region 14 with fail
          go_upto_region 15 with (at_builtin; refine wpList_erpush jobOk H5.out.1 ⟨k, Aj, nj, cj, b, false⟩ rfl (by omega) H5.out.2.2.1 rfl _ _ rfl rfl rfl rfl ?_)
          intro A6 k6 w6 hg6 hE6
          have hown : ∀ q, (Value.slice A5 n k5).ownBlock = some q → w4.heap.size ≤ q := fun q hq => (H5.out.1.lt q hq).1
          have K6 : Bk w6 wr.heap.size 57 #[.int .i64 (k : Int), .slice Aj nj cj, .bool b, .bool false] := (hg6.block _ H5.out.2.2.2.1.lt fun c => by have := hown _ c.symm; omega).trans H5.out.2.2.2.1
          have R6 : Bk w6 (w.heap.size + 1) 50 #[.slice none 0 0] := (hg6.block _ H5.out.2.2.2.2.1.lt fun c => by have := hown _ c.symm; omega).trans H5.out.2.2.2.2.1
          have B6 : Below w.heap.size w w6 := H5.out.2.2.2.2.2.grown hg6 H5.out.2.2.2.2.2.size fun q hq => by have := hown q hq; omega
          have hJ6 : JobsIn w6 A6 (r.add k Aj nj cj ej b) := by
            refine ER.jobs (base := w4.heap.size) (m := n + 1) (cap := k6) ?_
            rw [← RS.add_jc, ← HN.out]
            exact hE6
          obtain ⟨g6, o6, hA6, _⟩ := hJ6 (by show 0 < r.N + 1; omega)
          have hform : o6 = 0 ∧ w4.heap.size ≤ g6 := by
            rcases hE6.2 with ⟨e, _⟩ | ⟨g', cap', cur, e, h1, _⟩
            · rw [hA6] at e; simp at e
            · rw [hA6] at e
              simp only [Value.slice.injEq, Option.some.injEq, Addr.mk.injEq] at e
              exact ⟨e.1.2.1, by rw [e.1.1]; exact h1⟩
          obtain ⟨rfl, hg6l⟩ := hform
          subst hA6
          have t2 : w6.cell? ⟨wr.heap.size, 2, none⟩ = some (.bool b) := K6.cell rfl
          have z6 : w6.cell? ⟨w.heap.size + 1, 0, none⟩ = some (.slice none 0 0) := R6.cell rfl
          have f6 := R6.free 0
          have H6 := Lib.hid (show _ ∧ _ from ⟨B6, hJ6⟩)
          clear hE6 hg6 K6 R6 B6 hJ6 hown p0 p1 p2 p3
          go_upto_region 15 with fail
          go_region
          all_goals
            go_wp2_with fail
            have hB6 := H6.out.1.drew.setCell (p := ⟨w.heap.size + 1, 0, none⟩) (by dsimp only; omega) (.slice (some ⟨g6, 0, none⟩) (n + 1) k6)
            refine bodyPost_ret (v := .tuple #[.agg #[.slice (some ⟨g6, 0, none⟩) (n + 1) k6], .bool b, .int .i64 0]) (by simp [results, Try.results24, go_sem, z6]) rfl ⟨hB6, Or.inr (Or.inr (Or.inr ⟨by omega, HNO.out, HI.out.1, k, b, g6, k6, rfl, rfl, H4.out.1, fun h0 => ?_, by omega⟩))⟩
            obtain ⟨bl, off, e, h1⟩ := H6.out.2 h0
            simp only [Option.some.injEq, Addr.mk.injEq] at e
            obtain ⟨rfl, rfl, _⟩ := e
            exact ⟨g6, 0, rfl, fun i hi => (h1 i hi).keep (Below.heap_setCell w6.drew ⟨w.heap.size + 1, 0, none⟩ _ g6 (by dsimp only; omega))⟩
end Go.Proofs.Ytecimlbdcldkdaa
