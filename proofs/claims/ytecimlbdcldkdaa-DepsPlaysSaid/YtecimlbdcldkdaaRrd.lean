/- The reference's Ready: who waits for none, and isn't over. -/
import Derived.Test.YtecimlbdcldkdaaRwt
namespace Go.Proofs.Ytecimlbdcldkdaa
open Go.RowKit Go.Maps Dep

theorem keepB3 {w w' : World} {p1 p2 p3 : Addr} {v1 v2 v3 : Value} (h : w.cell? p1 = some v1 ∧ w.cell? p2 = some v2 ∧ w.cell? p3 = some v3) (hb : Below w.heap.size w w') : w'.cell? p1 = some v1 ∧ w'.cell? p2 = some v2 ∧ w'.cell? p3 = some v3 :=
  ⟨keep_below h.1 hb, keep_below h.2.1 hb, keep_below h.2.2 hb⟩
/-- y is ready -/
def RdR (r : RS) (y : Nat) : Prop := ∃ i, i < r.N ∧ r.id i = y ∧ r.ov i = false ∧ ∀ z, ¬ WtR r (r.id i : Int) z
def RReadySaid (r : RS) (w : World) (e : Ending) (w' : World) : Prop :=
  ∃ A m c l, e = .returned (.slice A m c) ∧ FR w' w.heap.size (.slice A m c) l ∧ l.Pairwise (· < ·) ∧ (∀ y, y ∈ l ↔ RdR r y) ∧ l.length ≤ r.N ∧ Below w.heap.size w w'
def RdAt (w wr : World) (r : RS) (i : Nat) (A : Option Addr) (n cap : Nat) (v : Value) (l : List Nat) : Prop :=
  FR wr w.heap.size v l ∧ l.Pairwise (· < ·) ∧ (∀ y : Nat, y ∈ l ↔ ∃ q, q < i ∧ r.id q = y ∧ r.ov q = false ∧ ∀ z, ¬ WtR r (r.id q : Int) z) ∧ l.length ≤ i ∧ Bk wr w.heap.size 50 #[.slice A n cap] ∧ Below w.heap.size w wr
theorem RdAt.pass {w wr w' : World} {r : RS} {i : Nat} {A : Option Addr} {n cap : Nat} {v : Value} {l : List Nat} (h : RdAt w wr r i A n cap v l) (hb : Below wr.heap.size wr w') : RdAt w w' r i A n cap v l :=
  ⟨h.1.pass hb, h.2.1, h.2.2.1, h.2.2.2.1, h.2.2.2.2.1.pass hb, below_pass h.2.2.2.2.2 h.2.2.2.2.2.size hb⟩
theorem RdAt.skip {w wr : World} {r : RS} {i : Nat} {A : Option Addr} {n cap : Nat} {v : Value} {l : List Nat} (h : RdAt w wr r i A n cap v l) (ho : ¬ (r.ov i = false ∧ ∀ z, ¬ WtR r (r.id i : Int) z)) : RdAt w wr r (i + 1) A n cap v l := by
  refine ⟨h.1, h.2.1, fun y => ?_, by have := h.2.2.2.1; omega, h.2.2.2.2⟩
  rw [h.2.2.1]
  constructor
  · rintro ⟨q, hq, h1⟩; exact ⟨q, by omega, h1⟩
  · rintro ⟨q, hq, h1, h2⟩
    by_cases c : q = i
    · subst c; exact absurd h2 ho
    · exact ⟨q, by omega, h1, h2⟩
theorem RdAt.put {w wr w' : World} {r : RS} {i : Nat} {A : Option Addr} {n cap : Nat} {v : Value} {l : List Nat} (h : RdAt w wr r i A n cap v l) (ho : r.ov i = false ∧ ∀ z, ¬ WtR r (r.id i : Int) z) {v' : Value} {l' : List Nat} (hF : FR w' w.heap.size v' l') (hp : l'.Pairwise (· < ·)) (hm : ∀ y, y ∈ l' ↔ y = r.id i ∨ y ∈ l) (hb : Below wr.heap.size wr w') : RdAt w w' r (i + 1) A n cap v' l' := by
  refine ⟨hF, hp, fun y => ?_, ?_, h.2.2.2.2.1.pass hb, below_pass h.2.2.2.2.2 h.2.2.2.2.2.size hb⟩
  · rw [hm, h.2.2.1]
    constructor
    · rintro (c | ⟨q, hq, h1⟩)
      · exact ⟨i, by omega, c.symm, ho⟩
      · exact ⟨q, by omega, h1⟩
    · rintro ⟨q, hq, h1, h2⟩
      by_cases c : q = i
      · subst c; left; exact h1.symm
      · exact Or.inr ⟨q, by omega, h1, h2⟩
  · have := rise_len hp (l2 := r.id i :: l) (fun y => by rw [hm, List.mem_cons])
    rw [List.length_cons] at this
    have := h.2.2.2.1
    omega

set_option maxRecDepth 100000 in
set_option maxHeartbeats 4000000 in
theorem rready_any {w : World} {A : Option Addr} {r : RS} (hJ : JobsIn w A r) (hA : AftersIn w r) (hr : RW r) (hN : r.N ≤ 1000) (n cap : Nat) (hn : n = r.N) :
    Calls Try.prog 26 #[.agg #[.slice A n cap]] w (RReadySaid r w) := by
  have H := Lib.hid (show _ ∧ _ ∧ _ from ⟨hJ, hA, hr⟩)
  have HN := Lib.hid hn
  have hn1 : (n : Int) ≤ 1000 := by omega
  clear hJ hn hA hr
  go_enter Try.func26, Try.ntmps26
  go_wp2_with fail
  go_loopg [3, 4] n (fun g s3 s4 wr => ∃ (i : Nat) (B : Option Addr) (m c : Nat), i ≤ n ∧ g = n - i ∧ s4 = .int .i64 i ∧ s3 = .slice B m c ∧ ∃ l, Hid (RdAt w wr r i A n cap (.slice B m c) l))
  case atStart => exact ⟨0, none, 0, 0, by omega, by omega, rfl, rfl, [], Lib.hid ⟨Or.inl ⟨rfl, rfl⟩, List.Pairwise.nil, fun y => ⟨fun h => (by cases h), fun ⟨q, hq, _⟩ => absurd hq (by omega)⟩, by simp, Bk.new w _ _, (Below.refl _ _).alloc (Nat.le_refl _) _⟩⟩
  case round =>
    obtain ⟨i, B, m, c, hi, hg, rfl, rfl, l, HI⟩ := hrel
    have cb : wr.cell? ⟨w.heap.size, 0, none⟩ = some (.slice A n cap) := HI.out.2.2.2.2.1.cell rfl
    have i0 : (0 : Int) ≤ (i : Int) := by omega
    by_cases hlt : i < n
    · obtain ⟨bl, off, rfl, hc⟩ := H.out.1 (by have := HN.out; omega)
      have hlt2 : i < r.N := by have := HN.out; omega
      have HC := Lib.hid hc
      have hat := (hc i hlt2).keep (HI.out.2.2.2.2.2.block bl (hc i hlt2).lt)
      have c0 := hat.c0
      have c2 := hat.c2
      clear hat hc
      have i1 : (i : Int) < (n : Int) := by omega
      obtain ⟨y, hy⟩ : ∃ y, Hid (r.id i = y) := ⟨_, Lib.hid rfl⟩
      obtain ⟨ov, hov⟩ : ∃ b, Hid (r.ov i = b) := ⟨_, Lib.hid rfl⟩
      rw [hy.out] at c0
      rw [hov.out] at c2
      cases ov with
      | true =>
        go_upto_region 5 with fail
        go_quiet (fail)
        all_goals
          go_wp2_with fail
          go_roundg (n - (i + 1))
          case measure => omega
          case rel => exact ⟨i + 1, _, _, _, by omega, rfl, by go_num, rfl, l, Lib.hid ((HI.out.skip (fun h => by rw [hov.out] at h; cases h.1)).pass (below_drewN (Below.refl _ wr) _))⟩
      | false =>
        have CA := Lib.hid (rwaits_any (w := wr.drew) (A := some ⟨bl, off, none⟩) (H.out.1.keep HI.out.2.2.2.2.2.drew) (H.out.2.1.keep HI.out.2.2.2.2.2.drew) H.out.2.2 hN n cap HN.out (y : Int))
        have hml : m ≤ 900000 := by have := HI.out.1.len; have := HI.out.2.2.2.1; omega
        go_upto_region 5 with fail
        go_region_held3 (fun w' => w'.cell? ⟨w.heap.size, 0, none⟩ = some (.slice (some ⟨bl, off, none⟩) n cap) ∧ w'.cell? ⟨bl, off + i * 4, none⟩ = some (.int .i64 (y : Int)) ∧ w'.cell? ⟨bl, off + i * 4 + 2, none⟩ = some (.bool false)) (first | (refine ⟨?_, ?_, ?_⟩ <;> assumption) | assumption | exact keepB3 (by assumption) (by assumption)) (first | (go_at_call 28; refine CA.out.mono ?_; rintro e w2 ⟨B2, m2, k2, l2, rfl, hF2, hp2, hm2, hb2⟩))
        all_goals
          have HI2 := Lib.hid (HI.out.pass (((Below.refl _ wr).drew).trans hb2))
          have hl2 := hF2.len
          have d0 := HI2.out.2.2.2.2.1.cell (i := 0) rfl
          have d1 := ((HC.out i hlt2).keep (HI2.out.2.2.2.2.2.block bl (HC.out i hlt2).lt)).c0
          rw [hy.out] at d1
          by_cases hz : m2 = 0
          · have hno : Hid (r.ov i = false ∧ ∀ z, ¬ WtR r (r.id i : Int) z) := Lib.hid ⟨hov.out, fun z hz2 => by
              rw [hy.out] at hz2
              have := (hm2 z).2 hz2
              rw [hz] at hl2
              rw [List.eq_nil_of_length_eq_zero hl2.symm] at this
              cases this⟩
            subst hz
            clear hF2 hp2 hm2 hb2 hl2
            go_wp2_with fail
            refine (put_any HI2.out.1 HI2.out.2.2.2.2.2.size hml HI2.out.2.1 y).mono ?_
            rintro e w3 ⟨B3, m3, c3, l3, rfl, hF3, hp3, hm3, hb3, _⟩
            have hnext : Hid (RdAt w w3 r (i + 1) (some ⟨bl, off, none⟩) n cap (.slice B3 m3 c3) l3) := Lib.hid (HI2.out.put hno.out hF3 hp3 (by rw [hy.out]; exact hm3) hb3)
            clear hF3 hp3 hm3 hb3
            go_wp2_with fail
            go_roundg (n - (i + 1))
            case measure => omega
            case rel => exact ⟨i + 1, _, _, _, by omega, rfl, by go_num, rfl, l3, hnext⟩
          · have hno : Hid (¬ (r.ov i = false ∧ ∀ z, ¬ WtR r (r.id i : Int) z)) := Lib.hid fun h => by
              cases l2 with
              | nil => exact hz hl2
              | cons a t => exact h.2 a (by rw [hy.out]; exact (hm2 a).1 (by simp))
            have hd : ((m2 : Int) == 0) = false := by simp; omega
            clear hF2 hp2 hm2 hb2 hl2
            go_wp2_with fail
            go_roundg (n - (i + 1))
            case measure => omega
            case rel => exact ⟨i + 1, _, _, _, by omega, rfl, by go_num, rfl, l, Lib.hid (HI2.out.skip hno.out)⟩
    · obtain rfl : n = i := by omega
      go_wp2_with fail
      go_ret
      refine ⟨_, _, _, l, rfl, HI.out.1, HI.out.2.1, fun y => ?_, by have := HI.out.2.2.2.1; have := HN.out; omega, HI.out.2.2.2.2.2⟩
      rw [HI.out.2.2.1]
      constructor
      · rintro ⟨q, hq, h1, h2⟩
        exact ⟨q, by have := HN.out; omega, h1, h2⟩
      · rintro ⟨q, hq, h1, h2⟩
        exact ⟨q, by have := HN.out; omega, h1, h2⟩
end Go.Proofs.Ytecimlbdcldkdaa
