/- Walk of DepsPlays. -/
import Derived.Test.YtecimlbdcldkdaaPlyM
import Derived.Test.YtecimlbdcldkdaaActB
namespace Go.Proofs.Ytecimlbdcldkdaa
open Go.RowKit Go.Maps Dep

theorem ActSaidB.below {base : Nat} {d : GD} {s : GS} {x : Int} {n : Nat} {e : Nat → Int} {w0 w w' : World} {b : Bool} {er : Int} (h : ActSaidB base d s x n e w b er w') (hb : Below w0.heap.size w0 w) (hG : Gm w base d s) (hlo : w0.heap.size ≤ base) : Below w0.heap.size w0 w' ∧ w.heap.size ≤ w'.heap.size := by
  rcases h with ⟨_, _, rfl, _⟩ | ⟨_, _, _, _, _, _, _, _, _, _, _, _, _, hE⟩
  · exact ⟨hb, Nat.le_refl _⟩
  · exact ⟨hE.toBelow hb hb.size fun g hg => by have := (hG.foot_lt g hg).1; omega, hE.size⟩
theorem AftersIn.add {w : World} {r : RS} (h : AftersIn w r) {A : Option Addr} {n : Nat} {e : Nat → Int} (hn : IntsIn w A n e) (k c : Nat) (b : Bool) : AftersIn w (r.add k A n c e b) := fun i hi => by
  have hi : i < r.N + 1 := hi
  show IntsIn w (upd r.A r.N A i) (upd r.n r.N n i) (upd r.e r.N e i)
  by_cases c : i = r.N
  · rw [c, upd_same, upd_same, upd_same]; exact hn
  · rw [upd_other _ _ c, upd_other _ _ c, upd_other _ _ c]; exact h i (by omega)
/-- both put the same job in, or neither does -/
theorem both_add {w wc w4 w5 : World} {base G WB : Nat} {d : GD} {s : GS} {r : RS} {A : Option Addr} (H : PlX w wc base G WB d s r A) {n cap : Nat} (hn : n = r.N) {x : Int} (hx : In64 x) {An : Option Addr} {na ca : Nat} {ea : Nat → Int} (hrow : IntsIn w An na ea) (hna : na ≤ 20) {b : Bool} {er : Int} (hS : ActSaidB base d s x na ea wc b er w4) {e : Ending} (hR : RAddSaid r A n cap x An na ca ea w4 e w5) :
    ∃ (A' : Option Addr) (n' cap' : Nat) (d' : GD) (s' : GS) (r' : RS), e = .returned (.tuple #[.agg #[.slice A' n' cap'], .bool b, .int .i64 er]) ∧ n' = r'.N ∧ n' ≤ n + 1 ∧ PlX w w5 base G WB d' s' r' A' := by
  obtain ⟨B5, hR⟩ := hR
  have hhas := H.lk.has x
  have hall : ∀ j, (∃ i, i < s.N ∧ (s.id i : Int) = ea j) ↔ ∃ i, i < r.N ∧ (r.id i : Int) = ea j := fun j => H.lk.has (ea j)
  have hbl := hS.below H.bel H.gm H.lo.1
  have hsz := H.sz
  have hW4 : ∃ v, Bk w4 WB 50 #[v] := by
    obtain ⟨v, h1⟩ := H.wb
    exact ⟨v, (hS.kept h1.lt H.wf).trans h1⟩
  rcases hS with ⟨_, rfl, rfl, hc⟩ | ⟨rfl, h1x, hno, hal, k, d', s', rfl, hAd, hG', hO', hg', hft, hE⟩
  · rcases hc with ⟨hx1, rfl⟩ | ⟨hx1, hex, rfl⟩ | ⟨hx1, hnex, ⟨j, hj, hjn⟩, rfl⟩
    · rcases hR with ⟨_, rfl⟩ | ⟨h, _⟩ | ⟨h, _⟩ | ⟨h, _⟩
      · exact ⟨A, n, cap, d, s, r, rfl, hn, by omega, H.pass B5⟩
      all_goals omega
    · rcases hR with ⟨h, _⟩ | ⟨_, _, rfl⟩ | ⟨_, h, _⟩ | ⟨_, h, _⟩
      · omega
      · exact ⟨A, n, cap, d, s, r, rfl, hn, by omega, H.pass B5⟩
      all_goals exact absurd (hhas.1 hex) h
    · rcases hR with ⟨h, _⟩ | ⟨_, h, _⟩ | ⟨_, _, _, rfl⟩ | ⟨_, _, h, _⟩
      · omega
      · exact absurd (hhas.2 h) hnex
      · exact ⟨A, n, cap, d, s, r, rfl, hn, by omega, H.pass B5⟩
      · exact absurd ((hall j).2 (h j hj)) hjn
  · rcases hR with ⟨h, _⟩ | ⟨_, h, _⟩ | ⟨_, _, ⟨j, hj, h⟩, _⟩ | ⟨_, hnew, hkn, k', b', g, cap', hk', rfl, hb', hJ5, hge⟩
    · omega
    · exact absurd (hhas.2 h) hno
    · obtain ⟨i, hi, e1⟩ := (hall j).1 (hal j hj)
      exact absurd e1 (h i hi)
    · obtain rfl : k = k' := by omega
      have hbb : b = b' := by
        have h1 : b = true ↔ b' = true := (hAd.bad.trans (H.lk.bad na ea)).trans hb'.symm
        cases b <;> cases b' <;> simp_all
      subst hbb
      refine ⟨some ⟨g, 0, none⟩, n + 1, cap', d', s', r.add k An na ca ea b, rfl, by rw [hn]; rfl, Nat.le_refl _, ⟨hG'.pass B5, hg'.trans H.g, H.lk.add hAd hO' hnew hkn hna, hJ5, fun g0 o e => ?_, ?_, fun c => ?_, H.af.add hrow k ca b, below_pass hbl.1 hbl.1.size B5, H.lo, fun i hi => ?_, fun i hi => ?_⟩⟩
      · simp only [Option.some.injEq, Addr.mk.injEq] at e
        obtain ⟨rfl, _, _⟩ := e
        exact ⟨fun c => by have := (hG'.foot_lt g c).2; omega, by omega⟩
      · obtain ⟨v, h1⟩ := hW4
        exact ⟨v, h1.pass B5⟩
      · rcases hft _ c with h | h
        · exact H.wf h
        · omega
      · rw [hAd.N] at hi
        by_cases c : i = s.N
        · rw [c]; have := hAd.wn; omega
        · rw [hAd.old i (by omega)]; exact H.wn i (by omega)
      · have hi : i < r.N + 1 := hi
        show In64 ((upd r.id r.N k i : Nat) : Int)
        by_cases c : i = r.N
        · rw [c, upd_same]; exact hx
        · rw [upd_other _ _ c]; exact H.i64 i (by omega)
/-- both finish the same -/
theorem both_fin {w wc w4 w5 : World} {base G WB : Nat} {d : GD} {s : GS} {r : RS} {A : Option Addr} (H : PlX w wc base G WB d s r A) {n cap : Nat} (hn : n = r.N) {x : Int} {well : Bool} {e1 e2 : Ending} (hS : FinSaid base d s x well wc e1 w4) (hN : r.N ≤ 900) (hR : RFinSaid r A n cap x well w4 e2 w5) :
    ∃ (A' : Option Addr) (cap' : Nat) (s' : GS) (r' : RS) (B1 B2 B3 B4 : Option Addr) (m1 m2 k1 k2 k3 k4 : Nat) (l1 l2 : List Nat) (er : Int), e1 = .returned (.tuple #[.slice B1 m1 k1, .slice B2 m2 k2, .int .i64 er]) ∧ e2 = .returned (.tuple #[.agg #[.slice A' n cap'], .slice B3 m1 k3, .slice B4 m2 k4, .int .i64 er]) ∧ n = r'.N ∧ PlX w w5 base G WB d s' r' A' ∧
      FR w5 (WB + 1) (.slice B1 m1 k1) l1 ∧ FR w5 (WB + 1) (.slice B3 m1 k3) l1 ∧ FR w5 (WB + 1) (.slice B2 m2 k2) l2 ∧ FR w5 (WB + 1) (.slice B4 m2 k4) l2 ∧ m1 ≤ 1000000 ∧ m2 ≤ 1000000 := by
  obtain ⟨B5, hR⟩ := hR
  have hhas := H.lk.has x
  have hsz := H.sz
  have hinj : ∀ i k, i < r.N → k < s.N → (r.id i : Int) = x → (s.id k : Int) = x → i = k := fun i k hi hk e1 e2 =>
    H.lk.ok.inj i k (by rw [H.lk.N]; exact hi) hk (by rw [H.lk.id i hi]; omega)
  rcases hS with ⟨hno, rfl, hb4⟩ | ⟨k, hk, hkx, hnot, rfl, hb4⟩ | ⟨k, hk, hkx, hov, hws, Am, m1, c1, R, Bm, m2, c2, D, ov', rfl, hFO, hG', hFR, hpR, hmR, hFD, hpD, hmD, hE⟩
  · rcases hR with ⟨_, rfl⟩ | ⟨i, hi, hix, _⟩ | ⟨i, hi, hix, _⟩
    · exact ⟨A, cap, s, r, none, none, none, none, 0, 0, 0, 0, 0, 0, [], [], 90, rfl, rfl, hn, (H.pass hb4).pass B5, Or.inl ⟨rfl, rfl⟩, Or.inl ⟨rfl, rfl⟩, Or.inl ⟨rfl, rfl⟩, Or.inl ⟨rfl, rfl⟩, by omega, by omega⟩
    all_goals exact absurd (hhas.2 ⟨i, hi, hix⟩) hno
  · rcases hR with ⟨h, _⟩ | ⟨i, hi, hix, _, rfl⟩ | ⟨i, hi, hix, hov2, hwt, _⟩
    · exact absurd (hhas.1 ⟨k, hk, hkx⟩) h
    · exact ⟨A, cap, s, r, none, none, none, none, 0, 0, 0, 0, 0, 0, [], [], 100, rfl, rfl, hn, (H.pass hb4).pass B5, Or.inl ⟨rfl, rfl⟩, Or.inl ⟨rfl, rfl⟩, Or.inl ⟨rfl, rfl⟩, Or.inl ⟨rfl, rfl⟩, by omega, by omega⟩
    · exfalso
      obtain rfl := hinj i k hi hk hix hkx
      have ho : s.ov i = false := by rw [H.lk.ov i hi]; exact hov2
      exact hnot ⟨ho, (H.lk.noWaits hk ho).2 (by rw [hkx]; exact hwt)⟩
  · rcases hR with ⟨h, _⟩ | ⟨i, hi, hix, h, _⟩ | ⟨i, hi, hix, hov2, hwt, g, k5, O, B, m, c, R', B2, m2', c2', D', rfl, hge, hJ5, hSO, hcl, hFR', hpR', hmR', hFD', hDL⟩
    · exact absurd (hhas.1 ⟨k, hk, hkx⟩) h
    · exfalso
      obtain rfl := hinj i k hi hk hix hkx
      refine h ⟨by rw [← H.lk.ov i hi]; exact hov, ?_⟩
      have := (H.lk.noWaits hk hov).1 hws
      rw [hkx] at this
      exact this
    · obtain rfl := hinj i k hi hk hix hkx
      have hsame := H.lk.same hi hov hFO hSO hcl
      obtain rfl : R = R' := uniq_rise hpR hpR' fun y => (hmR y).trans ((H.lk.more hi hov hFO hSO hcl y).trans (hmR' y).symm)
      obtain rfl : D = D' := uniq_rise hpD hDL.rise fun y => (hmD y).trans ((H.lk.doomed hsame y).trans (hDL.mem y).symm)
      have q1 := hFR'.len
      have q2 := hFR.len
      have q3 := hFD'.len
      have q4 := hFD.len
      have hRl := row_len (r := r) hpR' fun y hy => by obtain ⟨⟨p, hp, e, _⟩, _⟩ := (hmR' y).1 hy; exact ⟨p, hp, e⟩
      have hDl := hDL.len
      obtain rfl : m = m1 := by omega
      obtain rfl : m2' = m2 := by omega
      have hw4 := hE.size
      have hWB : ∃ v, Bk w4 WB 50 #[v] := by
        obtain ⟨v, h1⟩ := H.wb
        exact ⟨v, (hE.block _ h1.lt H.wf).trans h1⟩
      have hbel : Below w.heap.size w w4 := hE.toBelow H.bel H.bel.size fun g hg => by have := (H.gm.foot_lt g hg).1; have := H.lo; omega
      refine ⟨some ⟨g, 0, none⟩, k5, _, r.fin i well O, Am, Bm, B, B2, m, m2', c1, c2, c, c2', R, D, 0, rfl, rfl, hn, ⟨hG'.pass B5, H.g, H.lk.fin hi hov hFO hSO hcl, hJ5, fun g0 o e => ?_, ?_, H.wf, H.af, below_pass hbel hbel.size B5, H.lo, fun q hq => Nat.le_trans (wsP_len s i _ q) (H.wn q hq), H.i64⟩, (hFR.pass B5).mono (by omega), hFR'.mono (by omega), (hFD.pass B5).mono (by omega), hFD'.mono (by omega), by omega, by omega⟩
      · simp only [Option.some.injEq, Addr.mk.injEq] at e
        obtain ⟨rfl, _, _⟩ := e
        exact ⟨fun c => by have := (hG'.foot_lt g c).2; omega, by omega⟩
      · obtain ⟨v, h1⟩ := hWB
        exact ⟨v, h1.pass B5⟩

set_option maxRecDepth 100000 in
set_option maxHeartbeats 8000000 in
theorem walk_DepsPlays (A0 : Option Addr) (m c : Nat) {w : World} (hro : ∃ f, ActsIn w A0 m f) :
    Calls Try.prog 8 #[.slice A0 m c] w fun x w' => x = .returned (.bool true) ∧ Below w.heap.size w w' := by
  obtain ⟨f, hro⟩ := hro
  have hm64 := hro.1
  have HR := Lib.hid hro.2
  clear hro
  go_enter Try.func8, Try.ntmps8
  go_wp2_with fail
  refine (awake_any w).mono ?_
  rintro e w1 ⟨rfl, B1⟩
  have HB1 := Lib.hid B1
  clear B1
  go_wp2_with fail
  refine (new_any w1).mono ?_
  rintro e w2 ⟨d0, rfl, G2, B2⟩
  have H2 := Lib.hid (show _ ∧ _ from ⟨G2, B2⟩)
  clear G2 B2
  obtain ⟨G, hG⟩ : ∃ G, Hid (d0.G = G) := ⟨_, Lib.hid rfl⟩
  rw [hG.out]
  have HP0 : Hid (PlX w (w2.alloc (.cells #[.slice none 0 0] 50)) w1.heap.size G w2.heap.size d0 GS.none RS.none none ∧ Bk (w2.alloc (.cells #[.slice none 0 0] 50)) w2.heap.size 50 #[.slice none 0 0]) := Lib.hid
    ⟨⟨H2.out.1.alloc _, hG.out, Lk.none, fun h => absurd h (Nat.lt_irrefl _), fun _ _ e => (by cases e), ⟨_, Bk.new w2 _ _⟩, fun c => by have := (H2.out.1.foot_lt _ c).2; omega, fun i hi => absurd hi (Nat.not_lt_zero _),
      (HB1.out.trans (H2.out.2.mono HB1.out.size)).alloc (Nat.le_trans HB1.out.size H2.out.2.size) _, ⟨HB1.out.size, H2.out.2.size⟩, fun i hi => absurd hi (Nat.not_lt_zero _), fun i hi => absurd hi (Nat.not_lt_zero _)⟩, Bk.new w2 _ _⟩
  obtain ⟨base, hbase⟩ : ∃ b, Hid (w1.heap.size = b) := ⟨_, Lib.hid rfl⟩
  rw [hbase.out] at HP0
  go_wp2_with fail
  go_loopg [6] m (fun g s6 wr => ∃ i : Nat, i ≤ m ∧ i ≤ 24 ∧ g = m - i ∧ s6 = .int .i64 i ∧ ∃ (n : Nat) (A : Option Addr) (cap : Nat) (d : GD) (s : GS) (r : RS), n = r.N ∧ n ≤ i ∧ Hid (PlX w wr base G w2.heap.size d s r A ∧ Bk wr w2.heap.size 50 #[.slice A n cap]))
  case atStart => exact ⟨0, by omega, by omega, by omega, rfl, 0, none, 0, d0, GS.none, RS.none, rfl, by omega, HP0⟩
  case round =>
    clear HP0 H2 hG
    obtain ⟨i, him, hi24, hg, rfl, n, A, cap, d, s, r, hn, hni, H⟩ := hrel
    have HN := Lib.hid hn
    clear hn
    have i0 : (0 : Int) ≤ (i : Int) := by omega
    by_cases h1 : i < m ∧ i < 24
    · obtain ⟨h1, h2⟩ := h1
      have h1' : (i : Int) < (m : Int) := by omega
      have h2' : (i : Int) < 24 := by omega
      obtain ⟨bl, off, rfl, hacts⟩ := HR.out (by omega)
      obtain ⟨k0, k1, k2, k3⟩ := (hacts i h1).pass H.out.1.bel
      obtain ⟨a, ha⟩ : ∃ a, Hid (f i = a) := ⟨_, Lib.hid rfl⟩
      have hat := Lib.hid (hacts i h1)
      rw [ha.out] at hat k0 k1 k2 k3
      clear hacts
      have hid := hat.out.id64
      have hrow := Lib.hid hat.out.row
      obtain ⟨ad, had⟩ : ∃ x, Hid (a.add = x) := ⟨_, Lib.hid rfl⟩
      obtain ⟨x, hx⟩ : ∃ x, Hid (a.id = x) := ⟨_, Lib.hid rfl⟩
      obtain ⟨An, hAn⟩ : ∃ x, Hid (a.A = x) := ⟨_, Lib.hid rfl⟩
      obtain ⟨na, hna⟩ : ∃ x, Hid (a.n = x) := ⟨_, Lib.hid rfl⟩
      obtain ⟨ca, hca⟩ : ∃ x, Hid (a.c = x) := ⟨_, Lib.hid rfl⟩
      obtain ⟨ea, hea⟩ : ∃ x, Hid (a.e = x) := ⟨_, Lib.hid rfl⟩
      obtain ⟨wa, hwa⟩ : ∃ x, Hid (a.well = x) := ⟨_, Lib.hid rfl⟩
      rw [had.out] at k0
      rw [hx.out] at k1 hid
      rw [hAn.out, hna.out, hca.out] at k2
      rw [hwa.out] at k3
      rw [hAn.out, hna.out, hea.out] at hrow
      have HID := Lib.hid hid
      clear hid
      have hlt := H.out.1.sz
      go_upto_region 9 with fail
      go_cut [7] (fun s7 wx => ∃ ga, s7 = .pointer (some ⟨ga, 0, none⟩) ∧ ga ≠ w2.heap.size ∧ Hid (PlX w wx base G w2.heap.size d s r A ∧ Bk wx w2.heap.size 50 #[.slice A n cap] ∧ Bk wx ga 39 #[.bool ad, .int .i64 x, .slice An na ca, .bool wa] ∧ ¬ Foot d s ga ∧ base ≤ ga))
      case first =>
        go_wp2_with fail
        go_meet
        exact ⟨wr.heap.size, rfl, by omega, Lib.hid ⟨H.out.1.pass ((Below.refl _ _).alloc (Nat.le_refl _) _), H.out.2.alloc _, Bk.new wr _ _, fun c => by have := (H.out.1.gm.foot_lt _ c).2; omega, by have := H.out.1.lo; omega⟩⟩
      case rest =>
        clear k0 k1 k2 k3 H hlt
        obtain ⟨ga, rfl, hga, H⟩ := hcut
        have a0 : wc.cell? ⟨ga, 0, none⟩ = some (.bool ad) := H.out.2.2.1.cell rfl
        have a1 : wc.cell? ⟨ga, 1, none⟩ = some (.int .i64 x) := H.out.2.2.1.cell rfl
        have a2 : wc.cell? ⟨ga, 2, none⟩ = some (.slice An na ca) := H.out.2.2.1.cell rfl
        have a3 : wc.cell? ⟨ga, 3, none⟩ = some (.bool wa) := H.out.2.2.1.cell rfl
        by_cases h3 : 20 < na
        · have h3' : (20 : Int) < (na : Int) := by omega
          go_wp2_with fail
          go_ret
          exact ⟨rfl, H.out.1.bel⟩
        · have h3' : (na : Int) ≤ 20 := by omega
          go_upto_if 44 with fail
          go_cut [] (fun wx => ∃ (n' : Nat) (A' : Option Addr) (cap' : Nat) (d' : GD) (s' : GS) (r' : RS), n' = r'.N ∧ n' ≤ i + 1 ∧ Hid (PlX w wx base G w2.heap.size d' s' r' A' ∧ Bk wx w2.heap.size 50 #[.slice A' n' cap'] ∧ Bk wx ga 39 #[.bool ad, .int .i64 x, .slice An na ca, .bool wa]))
          case first =>
            cases ad with
            | true =>
              have hN : s.N ≤ 900 := by rw [H.out.1.lk.N, ← HN.out]; omega
              have hOut : NumsOut wc d s An na ea := hrow.out.out H.out.1.gm H.out.1.bel H.out.1.lo.1 (by omega)
              have C := Lib.hid (act_addB (w := wc) (wr := wc) H.out.1.gm H.out.1.lk.ok hN (by have := H.out.1.lo; have := H.out.1.sz; omega) x HID.out An na ca ea hOut rfl)
              rw [H.out.1.g] at C
              clear hOut
              go_upto_region 13 with fail
              go_wp2_with fail
              refine C.out.mono ?_
              rintro e w4 ⟨b, er, rfl, hS⟩
              have hbl := hS.below H.out.1.bel H.out.1.gm H.out.1.lo.1
              have hW4 : Bk w4 w2.heap.size 50 #[.slice A n cap] := (hS.kept H.out.2.1.lt H.out.1.wf).trans H.out.2.1
              have hA4 : Bk w4 ga 39 #[.bool true, .int .i64 x, .slice An na ca, .bool wa] := (hS.kept H.out.2.2.1.lt H.out.2.2.2.1).trans H.out.2.2.1
              have hJ4 : JobsIn w4 A r := H.out.1.js.keepB fun g o e hl => hS.kept hl (H.out.1.ja g o e).1
              have CR := Lib.hid (radd_any hJ4 H.out.1.lk.rw (by rw [← HN.out]; omega) n cap HN.out x An na ca ea (hrow.out.keepR hbl.1) (by omega))
              have HS := Lib.hid hS
              have K4 := Lib.hid (show _ ∧ _ from ⟨hW4, hA4⟩)
              clear hS hJ4 hbl hW4 hA4 a0 a1 a2 a3 C
              have cw : w4.cell? ⟨w2.heap.size, 0, none⟩ = some (.slice A n cap) := K4.out.1.cell rfl
              have a1 : w4.cell? ⟨ga, 1, none⟩ = some (.int .i64 x) := K4.out.2.cell rfl
              have a2 : w4.cell? ⟨ga, 2, none⟩ = some (.slice An na ca) := K4.out.2.cell rfl
              go_wp2_with fail
              refine CR.out.mono ?_
              intro e w5 hR
              have B5 := hR.1
              obtain ⟨A', n', cap', d', s', r', rfl, hn', hni', HP⟩ := both_add H.out.1 HN.out HID.out hrow.out (by omega) HS.out hR
              have HP := Lib.hid HP
              have HN' := Lib.hid hn'
              clear hn'
              have K5 := Lib.hid (show _ ∧ _ from ⟨K4.out.1.pass B5, K4.out.2.pass B5⟩)
              clear B5 hR cw a1 a2 CR
              have cw := fun o => keep_alloc (o := o) (K5.out.1.cell (i := 0) rfl)
              have fw := fun o => (K5.out.1.alloc o).free 0
              go_wp2_with fail
              go_meet
              have HT := (HP.out.pass ((Below.refl _ _).alloc (Nat.le_refl _) (.cells #[.slice A' n' cap'] 50))).store (.slice A' n' cap')
              exact ⟨n', A', cap', d', s', r', HN'.out, by omega, Lib.hid ⟨HT.1, HT.2, (K5.out.2.alloc _).far (by dsimp only; omega) _⟩⟩
            | false =>
              have hN : s.N ≤ 900 := by rw [H.out.1.lk.N, ← HN.out]; omega
              have C := Lib.hid (fin_any H.out.1.gm hN (fun k hk => by have := H.out.1.lk.ok.blen hk; omega) H.out.1.lk.ok.ids H.out.1.lk.ok.nd x HID.out wa)
              rw [H.out.1.g] at C
              go_upto_region 18 with fail
              go_wp2_with fail
              refine C.out.mono ?_
              intro e w4 hS
              have hkept : Hid ((∀ q, q < wc.heap.size → ¬ Foot d s q → w4.heap[q]? = wc.heap[q]?) ∧ Below w.heap.size w w4) := Lib.hid (by
                rcases hS with ⟨_, _, hb⟩ | ⟨_, _, _, _, _, hb⟩ | ⟨_, _, _, _, _, _, _, _, _, _, _, _, _, _, _, _, _, _, _, _, _, _, _, hE⟩
                · exact ⟨fun q hq _ => hb.block q hq, below_pass H.out.1.bel H.out.1.bel.size hb⟩
                · exact ⟨fun q hq _ => hb.block q hq, below_pass H.out.1.bel H.out.1.bel.size hb⟩
                · exact ⟨fun q hq hf => hE.block q hq hf, hE.toBelow H.out.1.bel H.out.1.bel.size fun g hg => by have := (H.out.1.gm.foot_lt g hg).1; have := H.out.1.lo; omega⟩)
              have hW4 : Bk w4 w2.heap.size 50 #[.slice A n cap] := (hkept.out.1 _ H.out.2.1.lt H.out.1.wf).trans H.out.2.1
              have hA4 : Bk w4 ga 39 #[.bool false, .int .i64 x, .slice An na ca, .bool wa] := (hkept.out.1 _ H.out.2.2.1.lt H.out.2.2.2.1).trans H.out.2.2.1
              have hJ4 : JobsIn w4 A r := H.out.1.js.keepB fun g o e hl => hkept.out.1 g hl (H.out.1.ja g o e).1
              have CR := Lib.hid (rfin_any hJ4 (H.out.1.af.keep hkept.out.2) H.out.1.lk.rw (by rw [← HN.out]; omega) n cap HN.out x wa)
              have K4 := Lib.hid (show _ ∧ _ from ⟨hW4, hA4⟩)
              have cw : w4.cell? ⟨w2.heap.size, 0, none⟩ = some (.slice A n cap) := K4.out.1.cell rfl
              have a1' : w4.cell? ⟨ga, 1, none⟩ = some (.int .i64 x) := K4.out.2.cell rfl
              have a3' : w4.cell? ⟨ga, 3, none⟩ = some (.bool wa) := K4.out.2.cell rfl
              clear hJ4 hW4 hA4 a0 a1 a2 a3 C hkept
              have hE1 : ∃ (B1 B2 : Option Addr) (m1 m2 k1 k2 : Nat) (er : Int), e = .returned (.tuple #[.slice B1 m1 k1, .slice B2 m2 k2, .int .i64 er]) := by
                rcases hS with ⟨_, rfl, _⟩ | ⟨_, _, _, _, rfl, _⟩ | ⟨_, _, _, _, _, _, _, _, _, _, _, _, _, _, rfl, _⟩
                · exact ⟨_, _, _, _, _, _, _, rfl⟩
                · exact ⟨_, _, _, _, _, _, _, rfl⟩
                · exact ⟨_, _, _, _, _, _, _, rfl⟩
              obtain ⟨B1, B2, m1, m2, k1, k2, er, rfl⟩ := hE1
              have HS := Lib.hid hS
              clear hS
              go_wp2_with fail
              refine CR.out.mono ?_
              intro e w5 hR
              have B5 := hR.1
              obtain ⟨A', cap', s', r', B1', B2', B3, B4, m1', m2', k1', k2', k3, k4, l1, l2, er', he1, rfl, hn', HP, F1, F2, F3, F4, hm1, hm2⟩ := both_fin H.out.1 HN.out HS.out (by rw [← HN.out]; omega) hR
              simp only [Ending.returned.injEq, Value.tuple.injEq, Array.mk.injEq, List.cons.injEq, Value.slice.injEq, Value.int.injEq, and_true, true_and] at he1
              obtain ⟨⟨rfl, rfl, rfl⟩, ⟨rfl, rfl, rfl⟩, rfl⟩ := he1
              have HP := Lib.hid HP
              have HN' := Lib.hid hn'
              clear hn'
              have K5 := Lib.hid (show _ ∧ _ from ⟨K4.out.1.pass B5, K4.out.2.pass B5⟩)
              have HF := Lib.hid (show _ ∧ _ ∧ _ ∧ _ from ⟨F1, F2, F3, F4⟩)
              clear B5 hR cw a1' a3' CR F1 F2 F3 F4
              have cw := fun o => keep_alloc (o := o) (K5.out.1.cell (i := 0) rfl)
              have fw := fun o => (K5.out.1.alloc o).free 0
              obtain ⟨W, hW⟩ : ∃ W, Hid ((w5.alloc (.cells #[.slice A' n cap'] 50)).setCell ⟨w2.heap.size, 0, none⟩ (.slice A' n cap') = W) := ⟨_, Lib.hid rfl⟩
              have HT : Hid (PlX w W base G w2.heap.size d s' r' A' ∧ Bk W w2.heap.size 50 #[.slice A' n cap'] ∧ Bk W ga 39 #[.bool false, .int .i64 x, .slice An na ca, .bool wa]) := Lib.hid (by
                have HT := (HP.out.pass ((Below.refl _ _).alloc (Nat.le_refl _) (.cells #[.slice A' n cap'] 50))).store (.slice A' n cap')
                rw [hW.out] at HT
                refine ⟨HT.1, HT.2, ?_⟩
                rw [← hW.out]
                exact (K5.out.2.alloc _).far (by dsimp only; omega) _)
              have hFW : ∀ (v : Value) (l : List Nat), FR w5 (w2.heap.size + 1) v l → FR W (w2.heap.size + 1) v l := fun v l hF => by
                rw [← hW.out]
                exact (hF.keep fun q _ hl => Below.heap_alloc w5 _ q hl).keep fun q hq _ => Below.heap_setCell _ _ _ q (by have := (hF.lt q hq).1; dsimp only; omega)
              have CS1 := Lib.hid (same_any B1 B3 m1 k1 k3 (fun j => ((l1.getD j 0 : Nat) : Int)) hm1 W (hFW _ _ HF.out.1).nums (hFW _ _ HF.out.2.1).nums)
              have CS2 := Lib.hid (fun (W' : World) (hb : Below W.heap.size W W') => same_any B2 B4 m2 k2 k4 (fun j => ((l2.getD j 0 : Nat) : Int)) hm2 W' ((hFW _ _ HF.out.2.2.1).pass hb).nums ((hFW _ _ HF.out.2.2.2).pass hb).nums)
              clear hFW
              have hWe := hW.out
              go_wp2_with fail
              refine CS1.out.mono ?_
              rintro e w6 ⟨rfl, B6⟩
              have C2 := Lib.hid (CS2.out w6 B6)
              have HB6 := Lib.hid B6
              clear B6 CS1 CS2 cw fw hWe
              go_wp2_with fail
              refine C2.out.mono ?_
              rintro e w7 ⟨rfl, B7⟩
              have HB7 := Lib.hid B7
              clear B7 C2
              go_wp2_with fail
              go_meet
              exact ⟨n, A', cap', d, s', r', HN'.out, by omega, Lib.hid ⟨(HT.out.1.pass HB6.out).pass HB7.out, (HT.out.2.1.pass HB6.out).pass HB7.out, (HT.out.2.2.pass HB6.out).pass HB7.out⟩⟩
          case rest =>
            clear a0 a1 a2 a3 H
            obtain ⟨n', A', cap', d', s', r', hn', hni', H⟩ := hcut
            have HN' := Lib.hid hn'
            clear hn'
            obtain ⟨B, hBB⟩ : ∃ B, Hid (wc.heap.size = B) := ⟨_, Lib.hid rfl⟩
            have lW : w2.heap.size < B := by rw [← hBB.out]; exact H.out.2.1.lt
            have lG : ga < B := by rw [← hBB.out]; exact H.out.2.2.lt
            have cw : wc.cell? ⟨w2.heap.size, 0, none⟩ = some (.slice A' n' cap') := H.out.2.1.cell rfl
            have cg : wc.cell? ⟨ga, 1, none⟩ = some (.int .i64 x) := H.out.2.2.cell rfl
            have hN : r'.N ≤ 900 := by rw [← HN'.out]; omega
            have CA := Lib.hid (fun (W : World) (hW : Below wc.heap.size wc W) => (H.out.1.pass hW).readyA hN)
            have CB := Lib.hid (fun (W : World) (hW : Below wc.heap.size wc W) => (H.out.1.pass hW).readyB hN n' cap' HN'.out)
            have CC := Lib.hid (fun (W : World) (hW : Below wc.heap.size wc W) => (H.out.1.pass hW).waitsA hN x HID.out)
            have CD := Lib.hid (fun (W : World) (hW : Below wc.heap.size wc W) => (H.out.1.pass hW).waitsB hN n' cap' HN'.out x)
            have hst : Below wc.heap.size wc wc.drew ∧ B ≤ wc.drew.heap.size ∧ ∀ b o, b < B → wc.drew.cell? ⟨b, o, none⟩ = wc.cell? ⟨b, o, none⟩ := ⟨(Below.refl _ _).drew, by rw [← hBB.out]; exact Nat.le_refl _, fun _ _ _ => rfl⟩
            clear hN
            go_upto_region 23 with fail
            go_region_held3 (fun w' => Below wc.heap.size wc w' ∧ B ≤ w'.heap.size ∧ ∀ b o, b < B → w'.cell? ⟨b, o, none⟩ = wc.cell? ⟨b, o, none⟩) (first | exact hst | assumption | exact keepW (by assumption) (by assumption)) (first | (go_at_call 21; refine (CA.out _ (And.left (by assumption))).mono ?_; rintro e wA ⟨Ba, ma, ka, la, rfl, hA, hbA⟩) | (go_at_call 26; refine (CB.out _ (And.left (by assumption))).mono ?_; rintro e wB ⟨Bb, mb, kb, lb, rfl, hB, hbB⟩) | (go_at_call 27; refine (CC.out _ (And.left (by assumption))).mono ?_; rintro e wC ⟨Bc, mc, kc, lc, rfl, hC, hbC⟩) | (go_at_call 28; refine (CD.out _ (And.left (by assumption))).mono ?_; rintro e wD ⟨Bd, md, kd, ld, rfl, hD, hbD⟩) | (go_at_call 14; first | (have h9 := hC; have h8 := hD; clear h9 h8; obtain ⟨rfl, rfl⟩ := rows_same hC.out hD.out; refine (same_any _ _ _ _ _ _ (Nat.le_trans hC.out.2.2.2 (by decide)) _ (by first | exact hC.out.1.nums | exact (hC.out.1.pass hbD).nums) (by first | exact hD.out.1.nums | exact (hD.out.1.pass hbC).nums)).mono ?_; rintro e w9 ⟨rfl, hb9⟩) | (obtain ⟨rfl, rfl⟩ := rows_same hA.out hB.out; refine (same_any _ _ _ _ _ _ (Nat.le_trans hA.out.2.2.2 (by decide)) _ (by first | exact hA.out.1.nums | exact (hA.out.1.pass hbB).nums) (by first | exact hB.out.1.nums | exact (hB.out.1.pass hbA).nums)).mono ?_; rintro e w8 ⟨rfl, hb8⟩)))
            all_goals
              go_wp2_with fail
              go_roundg (m - (i + 1))
              case measure => omega
              case rel => exact ⟨i + 1, by omega, by omega, rfl, by go_num, n', A', cap', d', s', r', HN'.out, hni', Lib.hid ⟨H.out.1.pass (And.left (by assumption)), H.out.2.1.pass (And.left (by assumption))⟩⟩
    · by_cases h2 : i < m
      · have h1' : (i : Int) < (m : Int) := by omega
        have h2' : ¬ (i : Int) < 24 := by omega
        have h24 : i = 24 := by omega
        clear h1
        go_wp2_with fail
        rename World => wo
        go_loopg [20] n (fun g s20 wr => ∃ p : Nat, p ≤ n ∧ g = n - p ∧ s20 = .int .i64 p ∧ Hid (PlX w wr base G w2.heap.size d s r A ∧ Bk wr w2.heap.size 50 #[.slice A n cap]))
        case atStart => exact ⟨0, by omega, by omega, rfl, H⟩
        case round =>
          clear H
          obtain ⟨p, hp, hg2, rfl, H⟩ := hrel
          have p0 : (0 : Int) ≤ (p : Int) := by omega
          have cw : wr.cell? ⟨w2.heap.size, 0, none⟩ = some (.slice A n cap) := H.out.2.cell rfl
          by_cases hlt : p < n
          · have hlt' : (p : Int) < (n : Int) := by omega
            have hpr : p < r.N := by have := HN.out; omega
            obtain ⟨bj, oj, rfl, hcj⟩ := H.out.1.js (by omega)
            have cj := (hcj p hpr).c0
            have lJ0 := (hcj p hpr).lt
            clear hcj
            obtain ⟨x, hx⟩ : ∃ x, Hid ((r.id p : Int) = x) := ⟨_, Lib.hid rfl⟩
            have hx64 := H.out.1.i64 p hpr
            rw [hx.out] at cj hx64
            have HX64 := Lib.hid hx64
            clear hx64
            obtain ⟨B, hBB⟩ : ∃ B, Hid (wr.heap.size = B) := ⟨_, Lib.hid rfl⟩
            have lW : w2.heap.size < B := by rw [← hBB.out]; exact H.out.2.lt
            have lJ : bj < B := by rw [← hBB.out]; exact lJ0
            clear lJ0
            have hN : r.N ≤ 900 := by rw [← HN.out]; omega
            have CC := Lib.hid (fun (W : World) (hW : Below wr.heap.size wr W) => (H.out.1.pass hW).waitsA hN x HX64.out)
            have CD := Lib.hid (fun (W : World) (hW : Below wr.heap.size wr W) => (H.out.1.pass hW).waitsB hN n cap HN.out x)
            have hst : Below wr.heap.size wr wr.drew ∧ B ≤ wr.drew.heap.size ∧ ∀ b o, b < B → wr.drew.cell? ⟨b, o, none⟩ = wr.cell? ⟨b, o, none⟩ := ⟨(Below.refl _ _).drew, by rw [← hBB.out]; exact Nat.le_refl _, fun _ _ _ => rfl⟩
            clear hN
            go_upto_region 28 with fail
            go_region_held3 (fun w' => Below wr.heap.size wr w' ∧ B ≤ w'.heap.size ∧ ∀ b o, b < B → w'.cell? ⟨b, o, none⟩ = wr.cell? ⟨b, o, none⟩) (first | exact hst | assumption | exact keepW (by assumption) (by assumption)) (first | (go_at_call 27; refine (CC.out _ (And.left (by assumption))).mono ?_; rintro e wC ⟨Bc, mc, kc, lc, rfl, hC, hbC⟩) | (go_at_call 28; refine (CD.out _ (And.left (by assumption))).mono ?_; rintro e wD ⟨Bd, md, kd, ld, rfl, hD, hbD⟩) | (go_at_call 14; obtain ⟨rfl, rfl⟩ := rows_same hC.out hD.out; refine (same_any _ _ _ _ _ _ (Nat.le_trans hC.out.2.2.2 (by decide)) _ (by first | exact hC.out.1.nums | exact (hC.out.1.pass hbD).nums) (by first | exact hD.out.1.nums | exact (hD.out.1.pass hbC).nums)).mono ?_; rintro e w9 ⟨rfl, hb9⟩))
            all_goals
              go_wp2_with fail
              go_roundg (n - (p + 1))
              case measure => omega
              case rel => exact ⟨p + 1, by omega, rfl, by go_num, Lib.hid ⟨H.out.1.pass (And.left (by assumption)), H.out.2.pass (And.left (by assumption))⟩⟩
          · obtain rfl : n = p := by omega
            go_wp2_with fail
            go_ret
            exact ⟨rfl, H.out.1.bel⟩
      · have h1' : ¬ (i : Int) < (m : Int) := by omega
        clear h1
        go_wp2_with fail
        rename World => wo
        go_loopg [20] n (fun g s20 wr => ∃ p : Nat, p ≤ n ∧ g = n - p ∧ s20 = .int .i64 p ∧ Hid (PlX w wr base G w2.heap.size d s r A ∧ Bk wr w2.heap.size 50 #[.slice A n cap]))
        case atStart => exact ⟨0, by omega, by omega, rfl, H⟩
        case round =>
          clear H
          obtain ⟨p, hp, hg2, rfl, H⟩ := hrel
          have p0 : (0 : Int) ≤ (p : Int) := by omega
          have cw : wr.cell? ⟨w2.heap.size, 0, none⟩ = some (.slice A n cap) := H.out.2.cell rfl
          by_cases hlt : p < n
          · have hlt' : (p : Int) < (n : Int) := by omega
            have hpr : p < r.N := by have := HN.out; omega
            obtain ⟨bj, oj, rfl, hcj⟩ := H.out.1.js (by omega)
            have cj := (hcj p hpr).c0
            have lJ0 := (hcj p hpr).lt
            clear hcj
            obtain ⟨x, hx⟩ : ∃ x, Hid ((r.id p : Int) = x) := ⟨_, Lib.hid rfl⟩
            have hx64 := H.out.1.i64 p hpr
            rw [hx.out] at cj hx64
            have HX64 := Lib.hid hx64
            clear hx64
            obtain ⟨B, hBB⟩ : ∃ B, Hid (wr.heap.size = B) := ⟨_, Lib.hid rfl⟩
            have lW : w2.heap.size < B := by rw [← hBB.out]; exact H.out.2.lt
            have lJ : bj < B := by rw [← hBB.out]; exact lJ0
            clear lJ0
            have hN : r.N ≤ 900 := by rw [← HN.out]; omega
            have CC := Lib.hid (fun (W : World) (hW : Below wr.heap.size wr W) => (H.out.1.pass hW).waitsA hN x HX64.out)
            have CD := Lib.hid (fun (W : World) (hW : Below wr.heap.size wr W) => (H.out.1.pass hW).waitsB hN n cap HN.out x)
            have hst : Below wr.heap.size wr wr.drew ∧ B ≤ wr.drew.heap.size ∧ ∀ b o, b < B → wr.drew.cell? ⟨b, o, none⟩ = wr.cell? ⟨b, o, none⟩ := ⟨(Below.refl _ _).drew, by rw [← hBB.out]; exact Nat.le_refl _, fun _ _ _ => rfl⟩
            clear hN
            go_upto_region 28 with fail
            go_region_held3 (fun w' => Below wr.heap.size wr w' ∧ B ≤ w'.heap.size ∧ ∀ b o, b < B → w'.cell? ⟨b, o, none⟩ = wr.cell? ⟨b, o, none⟩) (first | exact hst | assumption | exact keepW (by assumption) (by assumption)) (first | (go_at_call 27; refine (CC.out _ (And.left (by assumption))).mono ?_; rintro e wC ⟨Bc, mc, kc, lc, rfl, hC, hbC⟩) | (go_at_call 28; refine (CD.out _ (And.left (by assumption))).mono ?_; rintro e wD ⟨Bd, md, kd, ld, rfl, hD, hbD⟩) | (go_at_call 14; obtain ⟨rfl, rfl⟩ := rows_same hC.out hD.out; refine (same_any _ _ _ _ _ _ (Nat.le_trans hC.out.2.2.2 (by decide)) _ (by first | exact hC.out.1.nums | exact (hC.out.1.pass hbD).nums) (by first | exact hD.out.1.nums | exact (hD.out.1.pass hbC).nums)).mono ?_; rintro e w9 ⟨rfl, hb9⟩))
            all_goals
              go_wp2_with fail
              go_roundg (n - (p + 1))
              case measure => omega
              case rel => exact ⟨p + 1, by omega, rfl, by go_num, Lib.hid ⟨H.out.1.pass (And.left (by assumption)), H.out.2.pass (And.left (by assumption))⟩⟩
          · obtain rfl : n = p := by omega
            go_wp2_with fail
            go_ret
            exact ⟨rfl, H.out.1.bel⟩
end Go.Proofs.Ytecimlbdcldkdaa
