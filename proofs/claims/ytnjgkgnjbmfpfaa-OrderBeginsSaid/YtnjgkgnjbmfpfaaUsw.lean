/- The walk of order.users. -/
import Derived.Test.YtnjgkgnjbmfpfaaUsm
import Derived.Deep.CutBlock
import Derived.Deep.RegionHeld3
import Derived.Deep.LoopGhost
namespace Go.Proofs.Ytnjgkgnjbmfpfaa
open Go.RowKit Go.Maps Go.Sort Ot

/-- a job as its cells -/
def wantCells (j : JD) : Array Value := #[.int .i64 j.id, encStr j.user, .int .i64 j.prio, .int .i64 (j.need 0), .int .i64 (j.need 1), .int .i64 (j.need 2), .int .i64 (j.need 3)]
/-- behind the first i jobs -/
def UsA (w wr : World) (A2 : Option Addr) (n c2 : Nat) (js : Nat → JD) (i : Nat) (ks : List Str) (J : Str → Nat) (lv : Str → Value) : Prop :=
  Bk wr w.heap.size 46 #[.slice A2 n c2] ∧ UM FR wr (w.heap.size + 1) (w.heap.size + 1) ks J (fun _ => zero) lv (fun k => plc js k i) ∧ (∀ u, u ∈ ks ↔ ∃ x, x < i ∧ (js x).user = u) ∧ ks.length ≤ i ∧ Below w.heap.size w wr

/-- behind the first i amounts -/
def UsB (w wr : World) (A2 : Option Addr) (n k2 : Nat) (js : Nat → JD) (h : Nat → UD) (i : Nat) (ks : List Str) (J : Str → Nat) (lv : Str → Value) : Prop :=
  Bk wr w.heap.size 46 #[.slice A2 n k2] ∧ UM FR wr (w.heap.size + 1) (w.heap.size + 1) ks J (fun k => hasB k h i) lv (fun k => plc js k n) ∧ Below w.heap.size w wr

set_option maxRecDepth 100000 in
set_option maxHeartbeats 8000000 in
theorem users_any {w : World} (A1 : Option Addr) (nh k1 : Nat) (h : Nat → UD) (A2 : Option Addr) (n k2 : Nat) (js : Nat → JD) (hh : UsesIn w A1 nh h) (hj : WantsIn w A2 n js) (hnh : nh ≤ 1000) (hn : n ≤ 1000) :
    Calls Try.prog 45 #[.slice A1 nh k1, .slice A2 n k2] w fun e w' => ∃ M ks J lv ls, e = .returned (.map (some M)) ∧ UM LR w' w.heap.size M ks J (fun k => hasB k h nh) lv ls ∧ (∀ u, u ∈ ks ↔ ∃ i, i < n ∧ (js i).user = u) ∧ ks.length ≤ n ∧ (∀ k, k ∈ ks → (ls k).Pairwise (fun (x y : Nat) => prJ js (x : Int) (y : Int)) ∧ ∀ x, x ∈ ls k ↔ x < n ∧ (js x).user = k) ∧ Below w.heap.size w w' := by
  have HH := Lib.hid hh
  have HJ := Lib.hid hj
  have hnn : (n : Int) ≤ 1000 := by omega
  have hnhh : (nh : Int) ≤ 1000 := by omega
  clear hh hj
  go_enter Try.func45, Try.ntmps45
  have hmm := @run_makeMap Try.prog
  have HM : Hid (UsA w ((w.alloc (.cells #[.slice A2 n k2] 46)).alloc (.map #[] 0)) A2 n k2 js 0 [] (fun _ => 0) (fun _ => .slice none 0 0)) := Lib.hid (by
    refine ⟨(Bk.new w _ _).alloc _, ⟨MapS.madeAt (by simp) _, fun k hk => (by cases hk), fun k hk => (by cases hk), fun k hk => (by cases hk), fun k hk => (by cases hk), Nat.le_refl _, fun k hk => (by cases hk)⟩, fun u => ⟨fun h => (by cases h), fun ⟨x, hx, _⟩ => (by omega)⟩, Nat.le_refl _, ((Below.refl _ _).alloc (Nat.le_refl _) _).alloc (by simp) _⟩)
  go_wp2_with fail
  go_loopg [17] n (fun g s17 wr => ∃ i : Nat, i ≤ n ∧ g = n - i ∧ s17 = .int .i64 i ∧ ∃ ks J lv, Hid (UsA w wr A2 n k2 js i ks J lv))
  case atStart => exact ⟨0, by omega, by omega, rfl, [], fun _ => 0, fun _ => .slice none 0 0, HM⟩
  case round =>
    clear HM
    obtain ⟨i, hi, hg, rfl, ks, J, lv, H⟩ := hrel
    have i0 : (0 : Int) ≤ (i : Int) := by omega
    by_cases hlt : i < n
    · have hlt' : (i : Int) < (n : Int) := by omega
      obtain ⟨bl, off, rfl, hc⟩ := HJ.out (by omega)
      have hat := (hc i hlt).keep (H.out.2.2.2.2.block bl (hc i hlt).lt)
      clear hc
      have c0 := hat.c0
      have c1 := hat.c1
      have c2 := hat.c2
      have c3 := hat.c3
      have c4 := hat.c4
      have c5 := hat.c5
      have c6 := hat.c6
      have hul := hat.b1
      have b3 : wr.cell? ⟨w.heap.size, 0, none⟩ = some (.slice (some ⟨bl, off, none⟩) n k2) := H.out.1.cell rfl
      obtain ⟨W1, hW1⟩ : ∃ W, Hid (wr.alloc (.cells (wantCells (js i)) 50) = W) := ⟨_, Lib.hid rfl⟩
      have hU1 : UM FR W1 (w.heap.size + 1) (w.heap.size + 1) ks J (fun _ => zero) lv (fun k => plc js k i) := by rw [← hW1.out]; exact H.out.2.1.alloc rowyF _
      have hB1 : Bk W1 w.heap.size 46 #[.slice (some ⟨bl, off, none⟩) n k2] := by rw [← hW1.out]; exact H.out.1.alloc _
      have hX1 : Bk W1 wr.heap.size 50 (wantCells (js i)) := by rw [← hW1.out]; exact Bk.new _ _ _
      have hZ1 : W1.heap.size = wr.heap.size + 1 := by rw [← hW1.out]; simp
      have hL1 : Below w.heap.size w W1 := by rw [← hW1.out]; exact H.out.2.2.2.2.alloc H.out.2.2.2.2.size _
      have d1 : W1.cell? ⟨wr.heap.size, 1, none⟩ = some (encStr (js i).user) := hX1.cell rfl
      obtain ⟨u, hu⟩ : ∃ u, Hid ((js i).user = u) := ⟨_, Lib.hid rfl⟩
      by_cases hin : u ∈ ks
      · have hlook := hU1.m.look Try.underlying65 (zeroU W1) hin
        unfold wantCells at hW1
        rw [hu.out] at d1 c1 hW1
        have hW1' := hW1.out
        clear hW1
        obtain ⟨A9, k9, hrow⟩ := (hU1.l u hin).form
        obtain ⟨m9, hm9⟩ : ∃ m, Hid ((plc js u i).length = m) := ⟨_, Lib.hid rfl⟩
        rw [hm9.out] at hrow
        have hm9' : m9 ≤ 1000000 := by rw [← hm9.out]; exact Nat.le_trans (plc_len js u i) (by omega)
        have hF1 := hU1.l u hin
        rw [hrow] at hF1
        have e4 : W1.cell? ⟨J u, 4, none⟩ = some (.slice A9 m9 k9) := by rw [← hrow]; exact (hU1.j u hin).cell rfl
        have hbs : w.heap.size + 1 ≤ W1.heap.size := by rw [hZ1]; have := H.out.2.2.2.2.size; omega
        have H1 := Lib.hid (show _ ∧ _ ∧ _ ∧ _ ∧ _ ∧ _ ∧ _ from ⟨hU1, hB1, hL1, hF1, hrow, hbs, hZ1⟩)
        have HIN := Lib.hid hin
        clear hU1 hB1 hL1 hF1 hrow hbs hZ1 hin hX1
        go_upto_region 9 with fail
        go_upto_region 10 with (at_builtin; refine wpList_frpush H1.out.2.2.2.1 (k := i) hm9' H1.out.2.2.2.2.2.1 rfl _ _ rfl rfl rfl rfl ?_)
        intro A8 c8 W' hg8 hF8 hr8
        obtain ⟨q1, q2, hU2⟩ := H1.out.1.push HIN.out (by rw [H1.out.2.2.2.2.1]; exact hg8) hF8 (by rw [H1.out.2.2.2.2.1]; exact hr8)
        rw [H1.out.2.2.2.2.1] at q1
        have hown : ∀ q, (Value.slice A9 m9 k9).ownBlock = some q → w.heap.size + 1 ≤ q := fun q hq => (H1.out.2.2.2.1.lt q hq).1
        have hJu := H1.out.1.lo.2 u HIN.out
        have hb2 : Bk W' w.heap.size 46 #[.slice (some ⟨bl, off, none⟩) n k2] := (hg8.block _ H1.out.2.1.lt fun c => by have := hown _ c.symm; omega).trans H1.out.2.1
        have hl2 : Below w.heap.size w W' := H1.out.2.2.1.grown hg8 H1.out.2.2.1.size fun q hq => by have := hown q hq; omega
        have hnext : Hid (UsA w (W'.setCell ⟨J u, 4, none⟩ (.slice A8 (m9 + 1) c8)) (some ⟨bl, off, none⟩) n k2 js (i + 1) ks J (updS lv u (.slice A8 (m9 + 1) c8))) := Lib.hid (by
          refine ⟨hb2.far (by dsimp only; omega) _, hU2.congr (fun k _ => rfl) fun k _ => ?_, fun x => ?_, by have := H.out.2.2.2.1; omega, hl2.setCell (by dsimp only; omega) _⟩
          · by_cases e : k = u
            · rw [e, updS_same, plc_succ, if_pos hu.out]
            · rw [updS_other _ _ e, plc_succ, if_neg (fun c => e (c.symm.trans hu.out))]
          · rw [H.out.2.2.1]
            constructor
            · rintro ⟨y, hy, e⟩; exact ⟨y, by omega, e⟩
            · rintro ⟨y, hy, e⟩
              by_cases c : y = i
              · exact (H.out.2.2.1 x).1 (by rw [← e, c, hu.out]; exact HIN.out)
              · exact ⟨y, by omega, e⟩)
        clear hg8 hF8 hr8 hU2 hown hb2 hl2 hJu
        go_wp2_with fail
        go_roundg (n - (i + 1))
        case measure => omega
        case rel => exact ⟨i + 1, by omega, rfl, by go_num, ks, J, _, hnext⟩
      · rw [hu.out] at hul
        have hlook := hU1.m.lookNot Try.underlying65 (zeroU W1) hul hin
        unfold wantCells at hW1
        rw [hu.out] at d1 c1 hW1
        have hW1' := hW1.out
        clear hW1
        obtain ⟨W2, hW2⟩ : ∃ W, Hid (W1.alloc (.cells #[.int .i64 0, .int .i64 0, .int .i64 0, .int .i64 0, .slice none 0 0] 71) = W) := ⟨_, Lib.hid rfl⟩
        have hU2 : UM FR W2 (w.heap.size + 1) (w.heap.size + 1) ks J (fun _ => zero) lv (fun k => plc js k i) := by rw [← hW2.out]; exact hU1.alloc rowyF _
        have hB2 : Bk W2 w.heap.size 46 #[.slice (some ⟨bl, off, none⟩) n k2] := by rw [← hW2.out]; exact hB1.alloc _
        have hX2 : Bk W2 wr.heap.size 50 (wantCells (js i)) := by rw [← hW2.out]; exact hX1.alloc _
        have hY2 : Bk W2 (wr.heap.size + 1) 71 (userCells zero (.slice none 0 0)) := by rw [← hW2.out, ← hZ1]; exact Bk.new _ _ _
        have hL2 : Below w.heap.size w W2 := by rw [← hW2.out]; exact hL1.alloc hL1.size _
        have e1 : W2.cell? ⟨wr.heap.size, 1, none⟩ = some (encStr u) := by rw [← hu.out]; exact hX2.cell rfl
        obtain ⟨W3, hput, hM3, hg3⟩ := hU2.m.put Try.underlying65 hul hin (by have := H.out.2.2.2.1; omega) (.pointer (some ⟨(wr.heap.size + 1), 0, none⟩))
        have hlow := H.out.2.2.2.2.size
        have hMlt := H.out.2.1.m.lt
        have hnf : ¬ Ft (w.heap.size + 1) ks J lv (wr.heap.size + 1) := fun c => by have := (hU1.lt rowyF c).2; omega
        have hU3 := hU2.add rowyF hin hY2 hnf (by omega) (Or.inl ⟨rfl, rfl⟩) hg3 hM3
        have hB3 : Bk W3 w.heap.size 46 #[.slice (some ⟨bl, off, none⟩) n k2] := (hg3.block _ hB2.lt (by simp)).trans hB2
        have hL3 : Below w.heap.size w W3 := hL2.grown hg3 hL2.size fun q hq => by simp only [Option.some.injEq] at hq; omega
        have hZ3 : w.heap.size + 1 ≤ W3.heap.size := by have := hg3.size; have := hY2.lt; omega
        have hY3 : W3.cell? ⟨(wr.heap.size + 1), 4, none⟩ = some (.slice none 0 0) := by
          have h1 := hU3.j u (by simp)
          rw [updS_same, updS_same, updS_same] at h1
          exact h1.cell rfl
        have hX3 : W3.cell? ⟨wr.heap.size, 1, none⟩ = some (encStr u) := (World.cell?_of_block (hg3.block _ hX2.lt (by simp; omega))).trans e1
        have hW2' := hW2.out
        have H1 := Lib.hid (show _ ∧ _ ∧ _ ∧ _ from ⟨hU3, hB3, hL3, hZ3⟩)
        have HIN := Lib.hid hin
        have hF3 := Lib.hid (show FR W3 (w.heap.size + 1) (.slice none 0 0) [] from Or.inl ⟨rfl, rfl⟩)
        clear hU1 hB1 hL1 hU2 hB2 hX1 hX2 hY2 hL2 hM3 hg3 hU3 hB3 hL3 hZ3 hnf hlow hMlt hin hW2
        go_upto_region 9 with fail
        go_upto_region 10 with (at_builtin; refine wpList_frpush hF3.out (k := i) (by omega) H1.out.2.2.2 rfl _ _ rfl rfl rfl rfl ?_)
        intro A8 c8 W' hg8 hF8 hr8
        have hlvu : updS lv u (.slice none 0 0) u = .slice none 0 0 := updS_same _ _ _
        have hJuu : updS J u (wr.heap.size + 1) u = (wr.heap.size + 1) := updS_same _ _ _
        obtain ⟨q1, q2, hU4⟩ := H1.out.1.push (k := u) (by simp) (by rw [hlvu]; exact hg8) hF8 (by rw [hlvu]; exact hr8)
        rw [hlvu, hJuu] at q1
        rw [hJuu] at q2 hU4
        have hJu : w.heap.size + 1 ≤ (wr.heap.size + 1) := by have := H1.out.1.lo.2 u (by simp); rw [hJuu] at this; exact this
        have hb2 : Bk W' w.heap.size 46 #[.slice (some ⟨bl, off, none⟩) n k2] := (hg8.block _ H1.out.2.1.lt (by simp [Value.ownBlock])).trans H1.out.2.1
        have hl2 : Below w.heap.size w W' := H1.out.2.2.1.grown hg8 H1.out.2.2.1.size fun q hq => by simp [Value.ownBlock] at hq
        have hnext : Hid (UsA w (W'.setCell ⟨(wr.heap.size + 1), 4, none⟩ (.slice A8 1 c8)) (some ⟨bl, off, none⟩) n k2 js (i + 1) (ks ++ [u]) (updS J u (wr.heap.size + 1)) (updS (updS lv u (.slice none 0 0)) u (.slice A8 1 c8))) := Lib.hid (by
          refine ⟨hb2.far (by dsimp only; omega) _, hU4.congr (fun k _ => by unfold updS; split <;> rfl) fun k hk => ?_, fun x => ?_, by have := H.out.2.2.2.1; rw [List.length_append, List.length_singleton]; omega, hl2.setCell (by dsimp only; omega) _⟩
          · by_cases e : k = u
            · have hnil : plc js u i = [] := List.eq_nil_iff_forall_not_mem.2 fun x hx => HIN.out ((H.out.2.2.1 u).2 ⟨x, plc_mem.1 hx⟩)
              rw [e, updS_same, plc_succ, if_pos hu.out, hnil]; rfl
            · rw [updS_other _ _ e, updS_other _ _ e, plc_succ, if_neg (fun c => e (c.symm.trans hu.out))]
          · rw [List.mem_append, H.out.2.2.1]
            constructor
            · rintro (⟨y, hy, e⟩ | e)
              · exact ⟨y, by omega, e⟩
              · simp at e; exact ⟨i, by omega, by rw [hu.out, e]⟩
            · rintro ⟨y, hy, e⟩
              by_cases c : y = i
              · right; rw [← e, c, hu.out]; simp
              · exact Or.inl ⟨y, by omega, e⟩)
        clear hg8 hF8 hr8 hU4 hb2 hl2 hJu hlvu hJuu
        go_wp2_with fail
        go_roundg (n - (i + 1))
        case measure => omega
        case rel => exact ⟨i + 1, by omega, rfl, by go_num, ks ++ [u], _, _, hnext⟩
    · obtain rfl : n = i := by omega
      have HB : Hid (UsB w wr A2 n k2 js h 0 ks J lv) := Lib.hid ⟨H.out.1, H.out.2.1, H.out.2.2.2.2⟩
      have HKS := Lib.hid (show _ ∧ _ from ⟨H.out.2.2.1, H.out.2.2.2.1⟩)
      clear H
      go_wp2_with fail
      rename World => wo
      go_loopg [47] nh (fun g s47 wr => ∃ i : Nat, i ≤ nh ∧ g = nh - i ∧ s47 = .int .i64 i ∧ Hid (UsB w wr A2 n k2 js h i ks J lv))
      case atStart => exact ⟨0, by omega, by omega, rfl, HB⟩
      case round =>
        clear HB
        obtain ⟨i, hi, hg, rfl, H⟩ := hrel
        have i0 : (0 : Int) ≤ (i : Int) := by omega
        by_cases hlt : i < nh
        · have hlt' : (i : Int) < (nh : Int) := by omega
          obtain ⟨bl, off, rfl, hc⟩ := HH.out (by omega)
          have hat := (hc i hlt).keep (H.out.2.2.block bl (hc i hlt).lt)
          clear hc
          have c0 := hat.c0
          have c1 := hat.c1
          have c2 := hat.c2
          have c3 := hat.c3
          have c4 := hat.c4
          have hul := hat.b0
          clear hat
          obtain ⟨u, hu⟩ : ∃ u, Hid ((h i).user = u) := ⟨_, Lib.hid rfl⟩
          obtain ⟨y0, hy0⟩ : ∃ u, Hid ((h i).has 0 = u) := ⟨_, Lib.hid rfl⟩
          obtain ⟨y1, hy1⟩ : ∃ u, Hid ((h i).has 1 = u) := ⟨_, Lib.hid rfl⟩
          obtain ⟨y2, hy2⟩ : ∃ u, Hid ((h i).has 2 = u) := ⟨_, Lib.hid rfl⟩
          obtain ⟨y3, hy3⟩ : ∃ u, Hid ((h i).has 3 = u) := ⟨_, Lib.hid rfl⟩
          rw [hu.out] at c0 hul
          rw [hy0.out] at c1
          rw [hy1.out] at c2
          rw [hy2.out] at c3
          rw [hy3.out] at c4
          obtain ⟨W1, hW1⟩ : ∃ W, Hid (wr.alloc (.cells #[encStr u, .int .i64 y0, .int .i64 y1, .int .i64 y2, .int .i64 y3] 54) = W) := ⟨_, Lib.hid rfl⟩
          have hU1 : UM FR W1 (w.heap.size + 1) (w.heap.size + 1) ks J (fun k => hasB k h i) lv (fun k => plc js k n) := by rw [← hW1.out]; exact H.out.2.1.alloc rowyF _
          have hB1 : Bk W1 w.heap.size 46 #[.slice A2 n k2] := by rw [← hW1.out]; exact H.out.1.alloc _
          have hX1 : Bk W1 wr.heap.size 54 #[encStr u, .int .i64 y0, .int .i64 y1, .int .i64 y2, .int .i64 y3] := by rw [← hW1.out]; exact Bk.new _ _ _
          have hZ1 : W1.heap.size = wr.heap.size + 1 := by rw [← hW1.out]; simp
          have hL1 : Below w.heap.size w W1 := by rw [← hW1.out]; exact H.out.2.2.alloc H.out.2.2.size _
          have d0 : W1.cell? ⟨wr.heap.size, 0, none⟩ = some (encStr u) := hX1.cell rfl
          have d1 : W1.cell? ⟨wr.heap.size, 1, none⟩ = some (.int .i64 y0) := hX1.cell rfl
          have d2 : W1.cell? ⟨wr.heap.size, 2, none⟩ = some (.int .i64 y1) := hX1.cell rfl
          have d3 : W1.cell? ⟨wr.heap.size, 3, none⟩ = some (.int .i64 y2) := hX1.cell rfl
          have d4 : W1.cell? ⟨wr.heap.size, 4, none⟩ = some (.int .i64 y3) := hX1.cell rfl
          have hW1' := hW1.out
          clear hW1
          by_cases hin : u ∈ ks
          · have hlook := hU1.m.look Try.underlying65 (zeroU W1) hin
            have hJ := hU1.j u hin
            unfold userCells at hJ
            have C := Lib.hid (fun W => plus_any (hasB u h i) (h i).has W)
            unfold vecV at C
            obtain ⟨x0, hx0⟩ : ∃ v, Hid (hasB u h i 0 = v) := ⟨_, Lib.hid rfl⟩
            obtain ⟨x1, hx1⟩ : ∃ v, Hid (hasB u h i 1 = v) := ⟨_, Lib.hid rfl⟩
            obtain ⟨x2, hx2⟩ : ∃ v, Hid (hasB u h i 2 = v) := ⟨_, Lib.hid rfl⟩
            obtain ⟨x3, hx3⟩ : ∃ v, Hid (hasB u h i 3 = v) := ⟨_, Lib.hid rfl⟩
            obtain ⟨z0, hz0⟩ : ∃ v, Hid (plus (hasB u h i) (h i).has 0 = v) := ⟨_, Lib.hid rfl⟩
            obtain ⟨z1, hz1⟩ : ∃ v, Hid (plus (hasB u h i) (h i).has 1 = v) := ⟨_, Lib.hid rfl⟩
            obtain ⟨z2, hz2⟩ : ∃ v, Hid (plus (hasB u h i) (h i).has 2 = v) := ⟨_, Lib.hid rfl⟩
            obtain ⟨z3, hz3⟩ : ∃ v, Hid (plus (hasB u h i) (h i).has 3 = v) := ⟨_, Lib.hid rfl⟩
            rw [hx0.out, hx1.out, hx2.out, hx3.out, hy0.out, hy1.out, hy2.out, hy3.out, hz0.out, hz1.out, hz2.out, hz3.out] at C
            rw [hx0.out, hx1.out, hx2.out, hx3.out] at hJ
            have e0 : W1.cell? ⟨J u, 0, none⟩ = some (.int .i64 x0) := hJ.cell rfl
            have e1 : W1.cell? ⟨J u, 1, none⟩ = some (.int .i64 x1) := hJ.cell rfl
            have e2 : W1.cell? ⟨J u, 2, none⟩ = some (.int .i64 x2) := hJ.cell rfl
            have e3 : W1.cell? ⟨J u, 3, none⟩ = some (.int .i64 x3) := hJ.cell rfl
            have H1 := Lib.hid (show _ ∧ _ ∧ _ ∧ _ ∧ _ from ⟨hU1, hB1, hL1, hZ1, hJ⟩)
            have HIN := Lib.hid hin
            clear hU1 hB1 hL1 hZ1 hJ hin hX1
            go_upto_region 16 with fail
            go_region_with (go_at_call 28; refine (C.out _).mono ?_; rintro e w3 ⟨rfl, hb⟩; have hJ3 := H1.out.2.2.2.2.drew.pass hb; have q0 := hJ3.cell (i := 0) rfl; have q1 := hJ3.cell (i := 1) rfl; have q2 := hJ3.cell (i := 2) rfl; have q3 := hJ3.cell (i := 3) rfl; have p0 := hJ3.free 0; have p1 := hJ3.free 1; have p2 := hJ3.free 2; have p3 := hJ3.free 3)
            all_goals
              go_wp2_with fail
              have hG := ((H1.out.1.heap rowyF (w' := W1.drew) rfl).pass rowyF hb).give rowyF HIN.out (plus (hasB u h i) (h i).has)
              rw [hz0.out, hz1.out, hz2.out, hz3.out] at hG
              have hJu := H1.out.1.lo.2 u HIN.out
              have hB := H1.out.2.1.drew.pass hb
              have hL := below_pass H1.out.2.2.1.drew H1.out.2.2.1.size hb
              go_roundg (nh - (i + 1))
              case measure => omega
              case rel =>
                refine ⟨i + 1, by omega, rfl, by go_num, Lib.hid ⟨(((hB.far (by dsimp only; omega) _).far (by dsimp only; omega) _).far (by dsimp only; omega) _).far (by dsimp only; omega) _, hG.congr (fun k hk => ?_) fun _ _ => rfl, (((hL.setCell (by dsimp only; omega) _).setCell (by dsimp only; omega) _).setCell (by dsimp only; omega) _).setCell (by dsimp only; omega) _⟩⟩
                show _ = if (h i).user = k then _ else _
                by_cases e : k = u
                · rw [e, updS_same, if_pos hu.out]
                · rw [updS_other _ _ e, if_neg (fun c => e (c.symm.trans hu.out))]
          · have hlook := hU1.m.lookNot Try.underlying65 (zeroU W1) hul hin
            have hnext : Hid (UsB w W1 A2 n k2 js h (i + 1) ks J lv) := Lib.hid ⟨hB1, hU1.congr (fun k hk => by
              show hasB k h i = if (h i).user = k then _ else _
              rw [if_neg (fun e => hin (by rw [← hu.out, e]; exact hk))]) fun _ _ => rfl, hL1⟩
            clear hU1 hB1 hL1 hZ1 hin hX1
            go_wp2_with fail
            go_roundg (nh - (i + 1))
            case measure => omega
            case rel => exact ⟨i + 1, by omega, rfl, by go_num, hnext⟩
        · obtain rfl : nh = i := by omega
          have HL := Lib.hid (show _ ∧ _ ∧ _ from ⟨H.out.1, H.out.2.1.lr, H.out.2.2⟩)
          clear H HH
          obtain ⟨rr, hrr⟩ : ∃ r, wr.heap.size = r := ⟨_, rfl⟩
          go_wp2_with (at_range; refine wpList_range_S HL.out.2.1.m Try.underlying65 rfl _ rfl rfl ?_)
          intro w0 hR0 hg0 hs0
          have hZ := HL.out.2.1.m.lt
          rw [hrr] at hZ
          have HR0 := Lib.hid (show _ ∧ _ ∧ _ ∧ _ from ⟨hR0, hg0, hs0, hZ⟩)
          clear hR0 hg0 hs0 hZ
          go_wp2_with fail
          rename World => wq
          go_loopg [13] ks.length (fun g s13 wx => ∃ (done : List Str) (lsx : Str → List Nat) (u13 : Value), s13 = u13 ∧ g = ks.length - done.length ∧
            Hid (RangS wx (w.heap.size + 1) rr ks (fun k => .pointer (some ⟨J k, 0, none⟩)) done ∧ Bk wx w.heap.size 46 #[.slice A2 n k2] ∧ UM LR wx (w.heap.size + 1) (w.heap.size + 1) ks J (fun k => hasB k h nh) lv lsx ∧ (∀ k, k ∈ ks → k ∉ done → lsx k = plc js k n) ∧
              (∀ k, k ∈ ks → k ∈ done → (lsx k).Pairwise (fun (x y : Nat) => prJ js (x : Int) (y : Int)) ∧ ∀ x, x ∈ lsx k ↔ x < n ∧ (js x).user = k) ∧ Below w.heap.size w wx ∧ (∀ k, k ∈ ks → (lv k).ownBlock ≠ some rr)))
          case atStart =>
            refine ⟨[], fun k => plc js k n, _, rfl, by simp, Lib.hid ⟨HR0.out.1, (HR0.out.2.1.block _ HL.out.1.lt (by simp)).trans HL.out.1, HL.out.2.1.grown rowyL HR0.out.2.1 (fun b _ => by simp), fun _ _ _ => rfl, fun k _ hk => (by cases hk), HL.out.2.2.grown HR0.out.2.1 HL.out.2.2.size (fun k hk => by cases hk), fun k hk c => ?_⟩⟩
            have := (HL.out.2.1.l k hk).lt _ c
            omega
          case round =>
            obtain ⟨done, lsx, u13, rfl, hg, H2⟩ := hrel
            go_wp2_with (at_next; refine wpList_next_S H2.out.1 rfl _ rfl rfl ?_ ?_)
            · intro hall
              have HA := Lib.hid hall
              clear hall
              go_wp2_with fail
              go_ret
              exact ⟨w.heap.size + 1, ks, J, lv, lsx, rfl, H2.out.2.2.1.mono (by omega), HKS.out.1, HKS.out.2, fun k hk => H2.out.2.2.2.2.1 k hk (HA.out k hk), H2.out.2.2.2.2.2.1⟩
            · intro k w1 hk hkd hR1 hg1 hs1 hen
              have hU1 : UM LR w1 (w.heap.size + 1) (w.heap.size + 1) ks J (fun k => hasB k h nh) lv lsx := H2.out.2.2.1.grown rowyL hg1 fun b hb c => by
                simp only [Option.some.injEq] at c
                have h1 := HR0.out.2.2.2
                rcases hb with rfl | ⟨x, hx, rfl | hb⟩
                · omega
                · have := (HL.out.2.1.j x hx).lt; omega
                · exact H2.out.2.2.2.2.2.2 x hx (by rw [hb, c])
              have hlow := HL.out.2.2.size
              have hB1 : Bk w1 w.heap.size 46 #[.slice A2 n k2] := (hg1.block _ H2.out.2.1.lt (by simp; have := HR0.out.2.2.2; omega)).trans H2.out.2.1
              have hL1 : Below w.heap.size w w1 := H2.out.2.2.2.2.2.1.grown hg1 H2.out.2.2.2.2.2.1.size fun q hq => by simp only [Option.some.injEq] at hq; omega
              have hlk := H2.out.2.2.2.1 k hk hkd
              have hne : lsx k ≠ [] := fun c => by
                obtain ⟨x, hx⟩ := (HKS.out.1 k).1 hk
                have := plc_mem.2 hx
                rw [← hlk, c] at this
                cases this
              obtain ⟨g, o, m, cap, hv, C⟩ := sort_row hU1 hk hlk hne hn hB1 (by omega) (fun W hW hn0 => by
                obtain ⟨bl, off, e, h1⟩ := HJ.out hn0
                exact ⟨bl, off, e, fun i hi => (h1 i hi).keep ((hW bl (by have := (h1 i hi).lt; omega)).trans (hL1.block bl (h1 i hi).lt))⟩)
              have hCC := Lib.hid C
              have e4 : w1.cell? ⟨J k, 4, none⟩ = some (.slice (some ⟨g, o, none⟩) m cap) := by rw [← hv]; exact (hU1.j k hk).cell rfl
              have H3 := Lib.hid (show _ ∧ _ ∧ _ ∧ _ ∧ _ ∧ _ ∧ _ from ⟨hU1, hB1, hL1, hlk, hv, hR1, hk⟩)
              have HKD := Lib.hid hkd
              clear hU1 hB1 hL1 hlk hne hv hR1 hk hkd C hlow
              go_wp2_with fail
              refine hCC.out.mono ?_
              rintro x5 w5 ⟨rfl, l', hU5, hp5, hm5, hK5, hB5, hg5, hgl5⟩
              have hM5 : w5.heap[w.heap.size + 1]? = w1.heap[w.heap.size + 1]? := hK5.2 _ (fun e => (H3.out.1.own rowyL H3.out.2.2.2.2.2.2 (g := g) (by rw [H3.out.2.2.2.2.1]; rfl)).1 e.symm) H3.out.1.m.lt
              have hr5 : w5.heap[rr]? = w1.heap[rr]? := hK5.2 _ (fun e => H2.out.2.2.2.2.2.2 k H3.out.2.2.2.2.2.2 (by rw [H3.out.2.2.2.2.1, e]; rfl)) H3.out.2.2.2.2.2.1.ltr
              have hR5 := H3.out.2.2.2.2.2.1.keep hM5 hr5
              have hL5 : Below w.heap.size w w5 := H3.out.2.2.1.trans (hB5.mono (by omega))
              have H5 := Lib.hid (show _ ∧ _ ∧ _ ∧ _ ∧ _ ∧ _ from ⟨hR5, (hB5.block w.heap.size (by omega)).trans H3.out.2.1, hU5, hp5, hm5, hL5⟩)
              have hsub := H3.out.2.2.2.2.2.1.sub
              have hlen := nodup_sub_len hsub.1 hsub.2
              rw [List.length_append, List.length_singleton] at hlen
              clear hM5 hr5 hR5 hL5 hU5 hp5 hm5 hK5 hB5 hg5 hgl5 hsub
              go_wp2_with fail
              go_roundg (ks.length - (done.length + 1))
              case measure => omega
              case rel =>
                refine ⟨done ++ [k], updS lsx k l', _, rfl, by simp, Lib.hid ⟨H5.out.1, H5.out.2.1, H5.out.2.2.1, fun x hx hxd => ?_, fun x hx hxd => ?_, H5.out.2.2.2.2.2, H2.out.2.2.2.2.2.2⟩⟩
                · have hxk : x ≠ k := fun e => hxd (by rw [e]; simp)
                  rw [updS_other _ _ hxk]
                  exact H2.out.2.2.2.1 x hx fun c => hxd (List.mem_append_left _ c)
                · by_cases hxk : x = k
                  · rw [hxk, updS_same]
                    refine ⟨H5.out.2.2.2.1, fun y => ?_⟩
                    rw [H5.out.2.2.2.2.1, H3.out.2.2.2.1, plc_mem]
                  · rw [updS_other _ _ hxk]
                    refine H2.out.2.2.2.2.1 x hx ?_
                    rcases List.mem_append.1 hxd with c | c
                    · exact c
                    · simp at c; exact absurd c hxk
end Go.Proofs.Ytnjgkgnjbmfpfaa
