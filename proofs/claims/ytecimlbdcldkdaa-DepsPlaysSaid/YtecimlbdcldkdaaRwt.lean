/- The reference's Waits: for which a job waits still. -/
import Derived.Test.YtecimlbdcldkdaaRg
namespace Go.Proofs.Ytecimlbdcldkdaa
open Go.RowKit Go.Maps Dep

/-- x waits for y -/
def WtR (r : RS) (x : Int) (y : Nat) : Prop := ∃ i, i < r.N ∧ (r.id i : Int) = x ∧ r.ov i = false ∧ ∃ j, j < r.n i ∧ r.e i j = (y : Int) ∧ ∃ k, k < r.N ∧ r.id k = y ∧ r.ov k = false
def RWaitsSaid (r : RS) (x : Int) (w : World) (e : Ending) (w' : World) : Prop :=
  ∃ A m c l, e = .returned (.slice A m c) ∧ FR w' w.heap.size (.slice A m c) l ∧ l.Pairwise (· < ·) ∧ (∀ y, y ∈ l ↔ WtR r x y) ∧ Below w.heap.size w w'
/-- what Waits holds between its rounds -/
def WtAt (w wr : World) (r : RS) (i j : Nat) (A : Option Addr) (n cap : Nat) (v : Value) (l : List Nat) : Prop :=
  FR wr w.heap.size v l ∧ l.Pairwise (· < ·) ∧ (∀ y : Nat, y ∈ l ↔ ∃ q, q < j ∧ r.e i q = (y : Int) ∧ ∃ k, k < r.N ∧ r.id k = y ∧ r.ov k = false) ∧ l.length ≤ j ∧ Bk wr w.heap.size 50 #[.slice A n cap] ∧ Below w.heap.size w wr
theorem WtAt.pass {w wr w' : World} {r : RS} {i j : Nat} {A : Option Addr} {n cap : Nat} {v : Value} {l : List Nat} (h : WtAt w wr r i j A n cap v l) (hb : Below wr.heap.size wr w') : WtAt w w' r i j A n cap v l :=
  ⟨h.1.pass hb, h.2.1, h.2.2.1, h.2.2.2.1, h.2.2.2.2.1.pass hb, below_pass h.2.2.2.2.2 h.2.2.2.2.2.size hb⟩
theorem WtAt.skip {w wr : World} {r : RS} {i j : Nat} {A : Option Addr} {n cap : Nat} {v : Value} {l : List Nat} (h : WtAt w wr r i j A n cap v l) (hr : RW r) {k : Nat} (hk : k < r.N) (he : r.e i j = (r.id k : Int)) (ho : r.ov k = true) : WtAt w wr r i (j + 1) A n cap v l := by
  refine ⟨h.1, h.2.1, fun y => ?_, by have := h.2.2.2.1; omega, h.2.2.2.2⟩
  rw [h.2.2.1]
  constructor
  · rintro ⟨q, hq, h1⟩; exact ⟨q, by omega, h1⟩
  · rintro ⟨q, hq, h1, k', hk', h2, h3⟩
    by_cases c : q = j
    · subst c
      have : k' = k := hr.inj k' k hk' hk (by omega)
      rw [this, ho] at h3
      cases h3
    · exact ⟨q, by omega, h1, k', hk', h2, h3⟩
theorem WtAt.put {w wr w' : World} {r : RS} {i j : Nat} {A : Option Addr} {n cap : Nat} {v : Value} {l : List Nat} (h : WtAt w wr r i j A n cap v l) {k : Nat} (hk : k < r.N) (he : r.e i j = (r.id k : Int)) (ho : r.ov k = false) {v' : Value} {l' : List Nat} (hF : FR w' w.heap.size v' l') (hp : l'.Pairwise (· < ·)) (hm : ∀ y, y ∈ l' ↔ y = r.id k ∨ y ∈ l) (hb : Below wr.heap.size wr w') : WtAt w w' r i (j + 1) A n cap v' l' := by
  refine ⟨hF, hp, fun y => ?_, ?_, h.2.2.2.2.1.pass hb, below_pass h.2.2.2.2.2 h.2.2.2.2.2.size hb⟩
  · rw [hm, h.2.2.1]
    constructor
    · rintro (c | ⟨q, hq, h1⟩)
      · exact ⟨j, by omega, by rw [c]; exact he, k, hk, c.symm, ho⟩
      · exact ⟨q, by omega, h1⟩
    · rintro ⟨q, hq, h1, h2⟩
      by_cases c : q = j
      · subst c; left; omega
      · exact Or.inr ⟨q, by omega, h1, h2⟩
  · have := rise_len hp (l2 := r.id k :: l) (fun y => by rw [hm, List.mem_cons])
    rw [List.length_cons] at this
    have := h.2.2.2.1
    omega

set_option maxRecDepth 100000 in
set_option maxHeartbeats 4000000 in
theorem rwaits_any {w : World} {A : Option Addr} {r : RS} (hJ : JobsIn w A r) (hA : AftersIn w r) (hr : RW r) (hN : r.N ≤ 1000) (n cap : Nat) (hn : n = r.N) (x : Int) :
    Calls Try.prog 28 #[.agg #[.slice A n cap], .int .i64 x] w (RWaitsSaid r x w) := by
  have H := Lib.hid (show _ ∧ _ ∧ _ from ⟨hJ, hA, hr⟩)
  have HN := Lib.hid hn
  have hn1 : (n : Int) ≤ 1000 := by omega
  have C := Lib.hid (at_any (w := w.alloc (.cells #[.slice A n cap] 50)) (hJ.keep ((Below.refl _ _).alloc (Nat.le_refl _) _)) hN n cap hn x)
  clear hJ hn hA hr
  go_enter Try.func28, Try.ntmps28
  go_wp2_with fail
  refine C.out.mono ?_
  rintro e w1 ⟨⟨z, rfl, hz⟩, B1⟩
  have H1 := Lib.hid (show Below w.heap.size w w1 ∧ Bk w1 w.heap.size 50 #[.slice A n cap] from ⟨((Below.refl _ _).alloc (Nat.le_refl _) _).trans (B1.mono (by simp)), (Bk.new w _ _).pass B1⟩)
  clear B1 C
  have cb : w1.cell? ⟨w.heap.size, 0, none⟩ = some (.slice A n cap) := H1.out.2.cell rfl
  by_cases hin : ∃ i, i < r.N ∧ (r.id i : Int) = x
  case neg =>
    obtain rfl := hz.none (fun i hi e => hin ⟨i, hi, e⟩)
    have HNO := Lib.hid hin
    clear hin
    go_wp2_with fail
    go_ret
    exact ⟨_, _, _, [], rfl, Or.inl ⟨rfl, rfl⟩, List.Pairwise.nil, fun y => ⟨fun h => (by cases h), fun ⟨i, hi, e, _⟩ => absurd ⟨i, hi, e⟩ HNO.out⟩, H1.out.1⟩
  case pos =>
    obtain ⟨i, hi, hx⟩ := hin
    obtain rfl := hz.some H.out.2.2 hi hx
    have HX := Lib.hid hx
    clear hz hx
    have i0 : (0 : Int) ≤ (i : Int) := by omega
    have i1 : (i : Int) < (n : Int) := by have := HN.out; omega
    obtain ⟨bl, off, rfl, hc⟩ := H.out.1 (by omega)
    have HC := Lib.hid hc
    have hat := (hc i hi).keep (H1.out.1.block bl (hc i hi).lt)
    clear hc
    have c1 := hat.c1
    have c2 := hat.c2
    clear hat
    obtain ⟨ov, hov⟩ : ∃ b, Hid (r.ov i = b) := ⟨_, Lib.hid rfl⟩
    rw [hov.out] at c2
    have d0 : decide ((i : Int) < 0) = false := by simp
    cases ov with
    | true =>
      go_wp2_with fail
      go_ret
      exact ⟨_, _, _, [], rfl, Or.inl ⟨rfl, rfl⟩, List.Pairwise.nil, fun y => ⟨fun h => (by cases h), fun ⟨k, hk, e, ho, _⟩ => by
        have : k = i := H.out.2.2.inj k i hk hi (by have := HX.out; omega)
        rw [this, hov.out] at ho
        cases ho⟩, H1.out.1⟩
    | false =>
      obtain ⟨Ai, hAi⟩ : ∃ b, Hid (r.A i = b) := ⟨_, Lib.hid rfl⟩
      obtain ⟨ni, hni⟩ : ∃ b, Hid (r.n i = b) := ⟨_, Lib.hid rfl⟩
      obtain ⟨ci, hci⟩ : ∃ b, Hid (r.c i = b) := ⟨_, Lib.hid rfl⟩
      rw [hAi.out, hni.out, hci.out] at c1
      have HA := Lib.hid (H.out.2.1 i hi).2.1
      rw [hAi.out, hni.out] at HA
      have hni20 : ni ≤ 20 := by rw [← hni.out]; exact H.out.2.2.n20 i hi
      go_wp2_with fail
      go_loopg [6, 7] ni (fun g s6 s7 wr => ∃ (j : Nat) (B : Option Addr) (m c : Nat), j ≤ ni ∧ g = ni - j ∧ s7 = .int .i64 j ∧ s6 = .slice B m c ∧ ∃ l, Hid (WtAt w wr r i j (some ⟨bl, off, none⟩) n cap (.slice B m c) l))
      case atStart => exact ⟨0, none, 0, 0, by omega, by omega, rfl, rfl, [], Lib.hid ⟨Or.inl ⟨rfl, rfl⟩, List.Pairwise.nil, fun y => ⟨fun h => (by cases h), fun ⟨q, hq, _⟩ => absurd hq (by omega)⟩, by simp, H1.out.2, H1.out.1⟩⟩
      case round =>
        clear c1 c2 cb
        obtain ⟨j, B, m, c, hj, hg, rfl, rfl, l, HI⟩ := hrel
        have cb : wr.cell? ⟨w.heap.size, 0, none⟩ = some (.slice (some ⟨bl, off, none⟩) n cap) := HI.out.2.2.2.2.1.cell rfl
        have hat := (HC.out i hi).keep (HI.out.2.2.2.2.2.block bl (HC.out i hi).lt)
        have c1 := hat.c1
        rw [hAi.out, hni.out, hci.out] at c1
        clear hat
        have j0 : (0 : Int) ≤ (j : Int) := by omega
        by_cases hlt : j < ni
        · have j1 : (j : Int) < (ni : Int) := by omega
          obtain ⟨g2, o2, rfl, hc2⟩ := HA.out (by omega)
          have ce := (World.cell?_of_block (HI.out.2.2.2.2.2.block g2 (World.block_lt_of_cell? w ⟨g2, o2 + j, none⟩ (hc2 j hlt)))).trans (hc2 j hlt)
          clear hc2
          obtain ⟨k, hk, hke⟩ := H.out.2.2.af i hi j (by rw [hni.out]; exact hlt)
          have HK := Lib.hid hke.symm
          obtain ⟨y, hy⟩ : ∃ y, Hid (r.id k = y) := ⟨_, Lib.hid rfl⟩
          rw [← hke, hy.out] at ce
          clear hke
          have hatk := (HC.out k hk).keep (HI.out.2.2.2.2.2.block bl (HC.out k hk).lt)
          have ck := hatk.c2
          clear hatk
          obtain ⟨ok, hok⟩ : ∃ b, Hid (r.ov k = b) := ⟨_, Lib.hid rfl⟩
          rw [hok.out] at ck
          have k0 : (0 : Int) ≤ (k : Int) := by omega
          have k1 : (k : Int) < (n : Int) := by have := HN.out; omega
          have CA := Lib.hid ((at_any (w := wr.drew) (A := some ⟨bl, off, none⟩) ((H.out.1.keep HI.out.2.2.2.2.2.drew)) hN n cap HN.out (y : Int)).mono (R' := fun e w' => e = .returned (.int .i64 (k : Int)) ∧ Below wr.drew.heap.size wr.drew w') fun e w' hq => by
            obtain ⟨⟨z, rfl, hz⟩, hb⟩ := hq
            rw [hz.some H.out.2.2 hk (by rw [hy.out])]
            exact ⟨rfl, hb⟩)
          have hml : m ≤ 900000 := by have := HI.out.1.len; have := HI.out.2.2.2.1; omega
          cases ok with
          | true =>
            go_upto_region 9 with fail
            go_region_held3 (fun w' => w'.cell? ⟨w.heap.size, 0, none⟩ = some (.slice (some ⟨bl, off, none⟩) n cap) ∧ w'.cell? ⟨bl, off + k * 4 + 2, none⟩ = some (.bool true)) (first | (refine ⟨?_, ?_⟩ <;> assumption) | assumption | exact keepB2 (by assumption) (by assumption)) (first | (go_at_call 35; refine CA.out.mono ?_; rintro e w2 ⟨rfl, hb2⟩))
            all_goals
              go_wp2_with fail
              go_roundg (ni - (j + 1))
              case measure => omega
              case rel => exact ⟨j + 1, _, _, _, by omega, rfl, by go_num, rfl, l, Lib.hid ((HI.out.skip H.out.2.2 hk HK.out hok.out).pass (((Below.refl _ wr).drew).trans hb2))⟩
          | false =>
            go_upto_region 9 with fail
            go_region_held3 (fun w' => w'.cell? ⟨w.heap.size, 0, none⟩ = some (.slice (some ⟨bl, off, none⟩) n cap) ∧ w'.cell? ⟨bl, off + k * 4 + 2, none⟩ = some (.bool false)) (first | (refine ⟨?_, ?_⟩ <;> assumption) | assumption | exact keepB2 (by assumption) (by assumption)) (first | (go_at_call 35; refine CA.out.mono ?_; rintro e w2 ⟨rfl, hb2⟩))
            all_goals
              have HI2 := Lib.hid (HI.out.pass (((Below.refl _ wr).drew).trans hb2))
              go_wp2_with fail
              refine (put_any HI2.out.1 HI2.out.2.2.2.2.2.size hml HI2.out.2.1 y).mono ?_
              rintro e w3 ⟨B3, m3, c3, l3, rfl, hF3, hp3, hm3, hb3, _⟩
              have hnext : Hid (WtAt w w3 r i (j + 1) (some ⟨bl, off, none⟩) n cap (.slice B3 m3 c3) l3) := Lib.hid (HI2.out.put hk HK.out hok.out hF3 hp3 (by rw [hy.out]; exact hm3) hb3)
              clear hF3 hp3 hm3 hb3
              go_wp2_with fail
              go_roundg (ni - (j + 1))
              case measure => omega
              case rel => exact ⟨j + 1, _, _, _, by omega, rfl, by go_num, rfl, l3, hnext⟩
        · obtain rfl : ni = j := by omega
          go_wp2_with fail
          go_ret
          refine ⟨_, _, _, l, rfl, HI.out.1, HI.out.2.1, fun y => ?_, HI.out.2.2.2.2.2⟩
          rw [HI.out.2.2.1]
          constructor
          · rintro ⟨q, hq, h1, h2⟩
            exact ⟨i, hi, HX.out, hov.out, q, by rw [hni.out]; exact hq, h1, h2⟩
          · rintro ⟨i', hi', e1, _, q, hq, h1, h2⟩
            have : i' = i := H.out.2.2.inj i' i hi' hi (by have := HX.out; omega)
            rw [this] at hq h1
            exact ⟨q, by rw [← hni.out]; exact hq, h1, h2⟩
end Go.Proofs.Ytecimlbdcldkdaa
