/- Walk of DepsEnds. -/
import Derived.Test.YtecimlbdcldkdaaAct
import Derived.Test.YtecimlbdcldkdaaEndP
import Derived.Test.YtecimlbdcldkdaaRord
import Derived.Test.YtecimlbdcldkdaaIn
import Derived.Deep.CutBlock
import Derived.Deep.RegionHeld3
namespace Go.Proofs.Ytecimlbdcldkdaa
open Go.RowKit Go.Maps Dep

theorem ActSaid.kept {base : Nat} {d : GD} {s : GS} {x : Int} {n : Nat} {e : Nat → Int} {wr w' : World} {b : Bool} {er : Int} (h : ActSaid base d s x n e wr.drew b er w') {g : Nat} (hg : g < base) : w'.heap[g]? = wr.heap[g]? := by
  rcases h with ⟨_, _, rfl, _⟩ | ⟨_, _, _, _, _, _, _, _, _, _, _, _, hB⟩
  · rfl
  · exact hB.block g hg

set_option maxRecDepth 100000 in
set_option maxHeartbeats 8000000 in
theorem walk_DepsEnds (A0 : Option Addr) (m c : Nat) {w : World} (hro : ∃ f, ActsIn w A0 m f) :
    Calls Try.prog 6 #[.slice A0 m c] w fun x w' => x = .returned (.bool true) ∧ Below w.heap.size w w' := by
  obtain ⟨f, hro⟩ := hro
  have hm64 := hro.1
  have HR := Lib.hid hro.2
  clear hro
  go_enter Try.func6, Try.ntmps6
  go_wp2_with fail
  refine (awake_any w).mono ?_
  rintro e w1 ⟨rfl, B1⟩
  have HB1 := Lib.hid B1
  clear B1
  go_wp2_with fail
  refine (new_any w1).mono ?_
  rintro e w2 ⟨d0, rfl, G2, B2⟩
  have H2 := Lib.hid (show _ ∧ _ ∧ _ ∧ _ from ⟨(⟨G2, Okg.none, rfl, rfl, fun k hk => absurd hk (Nat.not_lt_zero _)⟩ : Fresh0 w2 w1.heap.size d0.G 0 d0 GS.none), B2.size, HB1.out.trans (B2.mono HB1.out.size), HB1.out.size⟩)
  clear G2 B2
  generalize d0.G = G at *
  go_upto_block 0 with fail
  obtain ⟨base, hbase⟩ : ∃ b, Hid (w1.heap.size = b) := ⟨_, Lib.hid rfl⟩
  rw [hbase.out] at H2
  go_cut [5, 6, 7, 8] (fun s5 s6 s7 s8 wx => ∃ (n : Nat) (d : GD) (s : GS) (i7 i8 i6 : Value), s6 = i6 ∧ s7 = i7 ∧ s8 = i8 ∧ s5 = .int .i64 n ∧ n ≤ 30 ∧ Hid (Fresh0 wx base G n d s ∧ base ≤ wx.heap.size ∧ Below w.heap.size w wx))
  case first =>
    go_wp2_with fail
    go_loopg [5, 6] m (fun g s5 s6 wr => ∃ i n : Nat, i ≤ m ∧ g = m - i ∧ s6 = .int .i64 i ∧ s5 = .int .i64 n ∧ n ≤ i ∧ i ≤ 30 ∧ ∃ d s, Hid (Fresh0 wr base G n d s ∧ base ≤ wr.heap.size ∧ Below w.heap.size w wr))
    case atStart => exact ⟨0, 0, by omega, by omega, rfl, rfl, by omega, by omega, d0, GS.none, Lib.hid ⟨H2.out.1, H2.out.2.1, H2.out.2.2.1⟩⟩
    case round =>
      obtain ⟨i, n, him, hg, rfl, rfl, hni, hi30, d, s, H⟩ := hrel
      have hn30 : n ≤ 30 := by omega
      have i0 : (0 : Int) ≤ (i : Int) := by omega
      by_cases h1 : i < m
      · have h1' : (i : Int) < (m : Int) := by omega
        by_cases h2 : i < 30
        · have h2' : (i : Int) < 30 := by omega
          obtain ⟨bl, off, rfl, hacts⟩ := HR.out (by omega)
          obtain ⟨k0, k1, k2, k3⟩ := (hacts i h1).pass H.out.2.2
          obtain ⟨a, ha⟩ : ∃ a, Hid (f i = a) := ⟨_, Lib.hid rfl⟩
          have hat := Lib.hid (hacts i h1)
          rw [ha.out] at hat k0 k1 k2 k3
          clear hacts k0 k3
          by_cases h3 : 20 < a.n
          · have h3' : (20 : Int) < (a.n : Int) := by omega
            go_wp2_with fail
            go_ret
            exact ⟨rfl, H.out.2.2⟩
          · have h3' : (a.n : Int) ≤ 20 := by omega
            have hid := hat.out.id64
            have hrow := hat.out.row
            have hN : s.N ≤ 900 := by rw [H.out.1.N]; omega
            have hOut : NumsOut wr d s a.A a.n a.e := hrow.out H.out.1.gm H.out.2.2 H2.out.2.2.2 (by omega)
            have C := Lib.hid (fun (W : World) (hW : wr.heap = W.heap) => act_add (w := W) H.out.1.gm H.out.1.ok hN H.out.2.1 a.id hid a.A a.n a.c a.e hOut hW)
            rw [H.out.1.g] at C
            obtain ⟨x, hx⟩ : ∃ x, Hid (a.id = x) := ⟨_, Lib.hid rfl⟩
            obtain ⟨An, hAn⟩ : ∃ x, Hid (a.A = x) := ⟨_, Lib.hid rfl⟩
            obtain ⟨na, hna⟩ : ∃ x, Hid (a.n = x) := ⟨_, Lib.hid rfl⟩
            obtain ⟨ca, hca⟩ : ∃ x, Hid (a.c = x) := ⟨_, Lib.hid rfl⟩
            rw [hx.out, hAn.out, hna.out, hca.out] at C
            rw [hAn.out, hna.out, hca.out] at k2
            rw [hx.out] at k1
            rw [hna.out] at h3 h3'
            have hbl := hat.out.lt
            have HK := Lib.hid (show ∀ w' b er, ActSaid base d s x na a.e wr.drew b er w' → w'.cell? ⟨bl, off + i * 4 + 1, none⟩ = some (.int .i64 x) ∧ w'.cell? ⟨bl, off + i * 4 + 2, none⟩ = some (.slice An na ca) from fun w' b er hS => by
              have hh := hS.kept (g := bl) (by have := H2.out.2.2.2; omega)
              exact ⟨(World.cell?_of_block hh).trans k1, (World.cell?_of_block hh).trans k2⟩)
            clear hid hrow hOut hbl
            go_upto_region 11 with fail
            go_region_held3 (fun w' => w'.cell? ⟨bl, off + i * 4 + 1, none⟩ = some (.int .i64 x) ∧ w'.cell? ⟨bl, off + i * 4 + 2, none⟩ = some (.slice An na ca)) (first | (refine ⟨?_, ?_⟩ <;> assumption) | assumption | exact HK.out _ _ _ (by assumption)) (first | (go_at_call 20; refine (C.out wr.drew rfl).mono ?_; rintro e w' ⟨b, er, rfl, hS⟩))
            have HS := Lib.hid hS
            have hDr : Hid (Fresh0 wr.drew base G n d s ∧ base ≤ wr.drew.heap.size ∧ Below w.heap.size w wr.drew) := Lib.hid ⟨H.out.1.alike rfl, H.out.2.1, H.out.2.2.drew⟩
            have hwb := H2.out.2.2.2
            by_cases her : er = 0
            · subst her
              have hnew : ∃ d' s', Hid (Fresh0 w' base G (n + 1) d' s' ∧ base ≤ w'.heap.size ∧ Below w.heap.size w w') := by
                rcases HS.out with ⟨h, _⟩ | ⟨_, _, _, _, k, d', s', _, e2, e3, e4, e5, e6⟩
                · cases h
                · exact ⟨d', s', Lib.hid ⟨hDr.out.1.add e2 e3 e4 e5, Nat.le_trans hDr.out.2.1 e6.size, hDr.out.2.2.trans (e6.mono hwb)⟩⟩
              obtain ⟨d', s', H'⟩ := hnew
              clear hS k1 k2
              go_wp2_with fail
              go_roundg (m - (i + 1))
              case measure => omega
              case rel => exact ⟨i + 1, n + 1, by omega, rfl, by go_num, by go_num, by omega, by omega, d', s', H'⟩
            · have her2 : (er == 0) = false := by simp [her]
              have hnew : Hid (Fresh0 w' base G n d s ∧ base ≤ w'.heap.size ∧ Below w.heap.size w w') := by
                rcases HS.out with ⟨_, _, h, _⟩ | ⟨h, _⟩
                · rw [h]; exact hDr
                · exact absurd h her
              clear hS k1 k2
              go_wp2_with fail
              go_roundg (m - (i + 1))
              case measure => omega
              case rel => exact ⟨i + 1, n, by omega, rfl, by go_num, rfl, by omega, by omega, d, s, hnew⟩
        · go_wp2_with fail
          go_meet
          exact ⟨n, d, s, _, _, _, rfl, rfl, rfl, rfl, hn30, H⟩
      · go_wp2_with fail
        go_meet
        exact ⟨n, d, s, _, _, _, rfl, rfl, rfl, rfl, hn30, H⟩
  case rest =>
    obtain ⟨n, d, s, i7, i8, i6, rfl, rfl, rfl, rfl, hn30, H⟩ := hcut
    have C := Lib.hid (ready_any H.out.1.gm (by rw [H.out.1.N]; omega))
    rw [H.out.1.g] at C
    go_upto_region 14 with fail
    go_wp2_with fail
    refine C.out.mono ?_
    rintro x3 w3 ⟨A3, m3, c3, l3, rfl, F3, p3, e3, B3⟩
    obtain ⟨b3, hb3⟩ : ∃ b, Hid (wc.heap.size = b) := ⟨_, Lib.hid rfl⟩
    rw [hb3.out] at F3 B3
    have hE3 : EndAt s l3 [] := ⟨H.out.1.ok, p3.imp (fun h => by omega), fun y => by
      rw [e3]
      constructor
      · rintro ⟨k, hk, e, _, h1⟩; exact ⟨k, hk, e, Or.inr h1⟩
      · rintro ⟨k, hk, e, h1⟩
        have hok := H.out.1.ov k (by rw [← H.out.1.N]; exact hk)
        rcases h1 with h1 | h1
        · rw [hok] at h1; cases h1
        · exact ⟨k, hk, e, hok, h1⟩, List.nodup_nil, fun y => ⟨fun h => (by cases h), fun ⟨k, hk, _, h1⟩ => by
        rw [H.out.1.ov k (by rw [← H.out.1.N]; exact hk)] at h1; cases h1⟩⟩
    have hfoot : ∀ (s' : GS) (b : Nat), s'.N = n → Foot d s' b → b < b3 := fun s' b hN hb => by
      have : Foot d s b := by unfold Foot at hb ⊢; rw [hN] at hb; rw [H.out.1.N]; exact hb
      rw [← hb3.out]; exact (H.out.1.gm.foot_lt b this).2
    have H3 := Lib.hid (show _ ∧ _ ∧ _ ∧ _ ∧ _ ∧ _ from ⟨hE3, F3, H.out.1.gm.pass (by rw [hb3.out]; exact B3), hfoot, H.out.2.2.trans (B3.mono (by rw [← hb3.out]; exact H.out.2.2.size)), (by rw [← hb3.out]; exact B3.size : b3 ≤ w3.heap.size)⟩)
    clear F3 p3 e3 B3 hE3 hfoot C
    go_wp2_with fail
    go_loopg [9, 10] n (fun g s9 s10 wr => ∃ (s' : GS) (M D : List Nat) (A9 : Option Addr) (m9 c9 : Nat) (A10 : Option Addr) (m10 c10 : Nat), s9 = .slice A9 m9 c9 ∧ s10 = .slice A10 m10 c10 ∧ g = n - m10 ∧ Hid (Gm wr base d s' ∧ s'.N = n ∧ EndAt s' M D ∧ FR wr b3 (.slice A9 m9 c9) M ∧ FR wr b3 (.slice A10 m10 c10) D ∧ (∀ q, (Value.slice A9 m9 c9).ownBlock = some q → (Value.slice A10 m10 c10).ownBlock ≠ some q) ∧ b3 ≤ wr.heap.size ∧ Below w.heap.size w wr))
    case atStart =>
      exact ⟨s, l3, [], A3, m3, c3, none, 0, 0, rfl, rfl, by omega, Lib.hid ⟨H3.out.2.2.1, H.out.1.N, H3.out.1, H3.out.2.1, Or.inl ⟨rfl, rfl⟩, fun q _ h => (by simp [Value.ownBlock] at h), H3.out.2.2.2.2.2, H3.out.2.2.2.2.1⟩⟩
    case round =>
      obtain ⟨s', M, D, A9, m9, c9, A10, m10, c10, rfl, rfl, hg, H4⟩ := hrel
      have hlD := Lib.hid H4.out.2.2.2.2.1.len
      have hlM := Lib.hid H4.out.2.2.2.1.len
      have hDn : m10 ≤ n := by rw [hlD.out, ← H4.out.2.1]; exact H4.out.2.2.1.dlen
      have hMn : m9 ≤ n := by rw [hlM.out, ← H4.out.2.1]; exact H4.out.2.2.1.mlen
      have CR := Lib.hid (ready_any H4.out.1 (by rw [H4.out.2.1]; omega))
      rw [H.out.1.g] at CR
      by_cases hdn : m10 < n
      · have hdn' : (m10 : Int) < (n : Int) := by omega
        go_wp2_with fail
        refine CR.out.mono ?_
        rintro x4 w4 ⟨A4, m4, c4, l4, rfl, F4, p4, e4, B4⟩
        obtain ⟨q, hq, hqo⟩ := H4.out.2.2.1.one (by rw [← hlD.out, H4.out.2.1]; omega)
        obtain ⟨r, hr, hro, hrw⟩ := H4.out.2.2.1.ok.ready q hq hqo
        have hmem : s'.id r ∈ l4 := (e4 _).2 ⟨r, hr, rfl, hro, hrw⟩
        have hl4 := F4.len
        have hpos : 0 < m4 := by rw [hl4]; exact List.length_pos_of_mem hmem
        obtain ⟨y0, hy0⟩ : ∃ y, l4[0]? = some y := ⟨_, List.getElem?_eq_getElem (by omega)⟩
        obtain ⟨i, hi, hyi, hio, hiw⟩ := (e4 y0).1 (List.mem_of_getElem? hy0)
        obtain ⟨g4, o4, rfl, ca⟩ := F4.cellAt hy0
        rw [Nat.add_zero] at ca
        have hg4 := F4.lt g4 rfl
        have hG4 := H4.out.1.pass B4
        obtain ⟨f4, hm4, _⟩ := hG4.m
        have hy64 : Nat64 y0 := hm4.key y0 (mem_ids.2 ⟨i, hi, hyi⟩)
        have CF := Lib.hid (fin_any hG4 (by rw [H4.out.2.1]; omega) (fun k hk => by have := H4.out.2.2.1.ok.blen hk; have := H4.out.2.1; omega) H4.out.2.2.1.ok.ids H4.out.2.2.1.ok.nd (y0 : Int) hy64.int true)
        rw [H.out.1.g] at CF
        have HY := Lib.hid (show _ ∧ _ ∧ _ ∧ _ ∧ _ ∧ _ from ⟨hi, hyi, hio, hiw, hG4, hg4⟩)
        have HB4 := Lib.hid B4
        have hpos' : (0 : Int) < (m4 : Int) := by omega
        have hne : ((m4 : Int) == 0) = false := by simp; omega
        clear F4 p4 e4 B4 CR hq hqo hr hro hrw hmem hl4 hy0 hi hyi hio hiw hG4 hg4 hm4 hy64
        go_wp2_with fail
        refine CF.out.mono ?_
        intro x5 w5 hS
        rcases hS with ⟨hn5, _⟩ | ⟨i5, h51, h52, h53, _⟩ | ⟨i5, h51, h52, h53, h54, A5, m5, c5, R, B5, n5, c5', Dd, ov', rfl, hf, hG5, hR5, pR, eR, hD5, _, eD, hE5⟩
        · exact absurd ⟨i, HY.out.1, by rw [HY.out.2.1]⟩ hn5
        · have : i5 = i := H4.out.1.inj h51 HY.out.1 (by have := HY.out.2.1; omega)
          rw [this] at h53
          exact absurd ⟨HY.out.2.2.1, HY.out.2.2.2.1⟩ h53
        have hi5 : i5 = i := H4.out.1.inj h51 HY.out.1 (by have := HY.out.2.1; omega)
        subst hi5
        have hst := H4.out.2.2.1.step h51 HY.out.2.2.1 HY.out.2.2.2.1 hf pR eR
        have hDd : Dd = [] := List.eq_nil_iff_forall_not_mem.2 fun y hy => by
          obtain ⟨k, hk, _, h1, h2⟩ := (eD y).1 hy
          rw [hf.good rfl k hk, h1] at h2
          cases h2
        have hn5 : n5 = 0 := by rw [hD5.len, hDd]; rfl
        subst hn5
        have hw54 : ∀ g, b3 ≤ g → g < wr.heap.size → w5.heap[g]? = wr.heap[g]? := fun g hg hl => (hE5.block g (Nat.lt_of_lt_of_le hl HB4.out.size) fun c => by have := H3.out.2.2.2.1 s' g H4.out.2.1 c; omega).trans (HB4.out.block g hl)
        have ca5 : w5.cell? ⟨g4, o4, none⟩ = some (.int .i64 (y0 : Int)) := hE5.cell ca (fun c => by have := (H4.out.1.foot_lt g4 c).2; have := HY.out.2.2.2.2.2.1; omega)
        have hM5 : FR w5 b3 (.slice A9 m9 c9) M := H4.out.2.2.2.1.keep fun g hg hl => hw54 g (H4.out.2.2.2.1.lt g hg).1 hl
        have hD55 : FR w5 b3 (.slice A10 m10 c10) D := H4.out.2.2.2.2.1.keep fun g hg hl => hw54 g (H4.out.2.2.2.2.1.lt g hg).1 hl
        have hB5 : Below w.heap.size w w5 := hE5.toBelow (H4.out.2.2.2.2.2.2.2.trans (HB4.out.mono H4.out.2.2.2.2.2.2.2.size)) (Nat.le_trans H4.out.2.2.2.2.2.2.2.size HB4.out.size) fun b hb => by have := (H4.out.1.foot_lt b hb).1; have := H2.out.2.2.2; omega
        have CI := Lib.hid (in_any A10 m10 c10 (fun j => ((D.getD j 0 : Nat) : Int)) (y0 : Int) false ⟨fun h => (by cases h), fun ⟨j, hj, e⟩ => by
          exfalso
          have hj2 : j < D.length := by rw [← hlD.out]; exact hj
          refine hst.2.2 ?_
          have : D.getD j 0 = s'.id i5 := by have := HY.out.2.1; have e' : ((D.getD j 0 : Nat) : Int) = (y0 : Int) := e; omega
          rw [← this, List.getD_eq_getElem?_getD, List.getElem?_eq_getElem hj2]
          exact List.getElem_mem hj2⟩ (by omega) w5 hD55.nums)
        have H5 := Lib.hid (show _ ∧ _ ∧ _ ∧ _ ∧ _ ∧ _ ∧ _ ∧ _ from ⟨hG5, hst, hM5, hD55, hR5, hB5, hE5.size, HB4.out.size⟩)
        clear hG5 hst hM5 hD55 hR5 hB5 hE5 pR eR eD hD5 hDd hw54 ca CF hf
        go_wp2_with fail
        refine CI.out.mono ?_
        rintro x6 w6 ⟨rfl, rfl⟩
        have hb35 : b3 ≤ w5.heap.size := Nat.le_trans H4.out.2.2.2.2.2.2.1 (Nat.le_trans H5.out.2.2.2.2.2.2.2 H5.out.2.2.2.2.2.2.1)
        have hm10 : m10 ≤ 1000000 := by omega
        go_upto_region 23 with fail
        go_upto_region 24 with (at_builtin; refine wpList_frpush H5.out.2.2.2.1 (k := y0) hm10 hb35 rfl _ _ rfl rfl rfl rfl ?_)
        intro A11 c11 W' hg7 hF7 hr7
        have hown10 : ∀ q, (Value.slice A10 m10 c10).ownBlock = some q → b3 ≤ q ∧ q < wr.heap.size := fun q hq => H4.out.2.2.2.2.1.lt q hq
        have hsz4 := HB4.out.size
        have hG7 := H5.out.1.grown hg7 (fun b hb c => by have := (hown10 b c).1; have := H3.out.2.2.2.1 s' b H4.out.2.1 hb; omega)
        have hM7 : FR W' b3 (.slice A9 m9 c9) M := H5.out.2.2.1.keep fun g hg hl => hg7.block g hl fun c => H4.out.2.2.2.2.2.1 g hg c.symm
        have hR7 : FR W' w4.heap.size (.slice A5 m5 c5) R := H5.out.2.2.2.2.1.keep fun g hg hl => hg7.block g hl fun c => by
          have := (hown10 g c.symm).2
          have := (H5.out.2.2.2.2.1.lt g hg).1
          omega
        have hB7 : Below w.heap.size w W' := H5.out.2.2.2.2.2.1.grown hg7 H5.out.2.2.2.2.2.1.size fun q hq => by have := (hown10 q hq).1; have := H3.out.2.2.2.2.1.size; have := H2.out.2.2.2; have := hb3.out; have := H.out.2.2.size; omega
        have hA7 : ∀ q, (Value.slice A9 m9 c9).ownBlock = some q → (Value.slice A11 (m10 + 1) c11).ownBlock ≠ some q := fun q hq c => by
          rcases hr7 q c with h | h
          · exact H4.out.2.2.2.2.2.1 q hq h
          · have := (H4.out.2.2.2.1.lt q hq).2; have := H5.out.2.2.2.2.2.2.1; omega
        have hA8 : ∀ q, (Value.slice A9 m9 c9).ownBlock = some q → (Value.slice A5 m5 c5).ownBlock ≠ some q := fun q hq c => by
          have := (H4.out.2.2.2.1.lt q hq).2
          have := (H5.out.2.2.2.2.1.lt q c).1
          omega
        have h37 : b3 ≤ W'.heap.size := Nat.le_trans hb35 hg7.size
        have H7 := Lib.hid (show _ ∧ _ ∧ _ ∧ _ ∧ _ ∧ _ ∧ _ ∧ _ from ⟨hG7, hM7, hF7, hR7, hB7, hA7, hA8, h37⟩)
        have hlR := Lib.hid hR7.len
        clear hg7 hF7 hr7 hG7 hM7 hR7 hB7 hA7 hA8 h37 hown10 hsz4
        go_wp2_with fail
        rename World => w7
        go_loopg [9, 15] m5 (fun g s9 s15 wi => ∃ (j : Nat) (A m' c' : _), j ≤ m5 ∧ g = m5 - j ∧ s15 = .int .i64 j ∧ s9 = .slice A m' c' ∧ Hid (Gm wi base d { s' with ov := ov', wl := upd s'.wl i5 true, ws := wsP s' i5 (s'.bl i5).length } ∧ FR wi b3 (.slice A m' c') (M ++ R.take j) ∧ FR wi b3 (.slice A11 (m10 + 1) c11) (D ++ [y0]) ∧ FR wi w4.heap.size (.slice A5 m5 c5) R ∧ Below w.heap.size w wi ∧ (∀ q, (Value.slice A m' c').ownBlock = some q → (Value.slice A11 (m10 + 1) c11).ownBlock ≠ some q) ∧ (∀ q, (Value.slice A m' c').ownBlock = some q → (Value.slice A5 m5 c5).ownBlock ≠ some q) ∧ b3 ≤ wi.heap.size))
        case atStart => exact ⟨0, A9, m9, c9, by omega, by omega, rfl, rfl, Lib.hid ⟨H7.out.1, by rw [List.take_zero, List.append_nil]; exact H7.out.2.1, H7.out.2.2.1, H7.out.2.2.2.1, H7.out.2.2.2.2.1, H7.out.2.2.2.2.2.1, H7.out.2.2.2.2.2.2.1, H7.out.2.2.2.2.2.2.2⟩⟩
        case round =>
          obtain ⟨j, A', m', c', hj, hg2, rfl, rfl, H8⟩ := hrel
          have hj0 : (0 : Int) ≤ (j : Int) := by omega
          have hlm := Lib.hid H8.out.2.1.len
          have hmn := Lib.hid H5.out.2.1.1.mlen
          have hNN : { s' with ov := ov', wl := upd s'.wl i5 true, ws := wsP s' i5 (s'.bl i5).length }.N = n := H4.out.2.1
          have hNs := Lib.hid hNN
          clear hNN
          have hm5b : m5 ≤ 1000 := by
            have h1 := hmn.out
            rw [List.length_append, hNs.out] at h1
            have h2 := hlR.out
            omega
          by_cases hjm : j < m5
          · obtain ⟨y, hy⟩ : ∃ y, R[j]? = some y := ⟨_, List.getElem?_eq_getElem (by rw [← hlR.out]; exact hjm)⟩
            obtain ⟨g5, o5, rfl, cy⟩ := H8.out.2.2.2.1.cellAt hy
            have HYJ := Lib.hid hy
            have HJM := Lib.hid (show j + 1 ≤ m5 from hjm)
            have hnot := Lib.hid (H5.out.2.1.2.1 j y hy)
            have hj1 : (j : Int) < (m5 : Int) := by omega
            have hm' : m' ≤ 1000000 := by
              have h1 := hmn.out
              have h2 := hNs.out
              have h3 := hlm.out
              rw [List.length_append] at h1 h3
              rw [List.length_take] at h3
              rw [h2] at h1
              omega
            have CI2 := Lib.hid (in_any A' m' c' (fun q => (((M ++ R.take j).getD q 0 : Nat) : Int)) (y : Int) false ⟨fun h => (by cases h), fun ⟨q, hq, e⟩ => by
              exfalso
              have hq2 : q < (M ++ R.take j).length := by rw [← hlm.out]; exact hq
              refine hnot.out ?_
              have e' : (((M ++ R.take j).getD q 0 : Nat) : Int) = (y : Int) := e
              have : (M ++ R.take j).getD q 0 = y := by omega
              rw [← this, List.getD_eq_getElem?_getD, List.getElem?_eq_getElem hq2]
              exact List.getElem_mem hq2⟩ hm' wr H8.out.2.1.nums)
            have h38 := H8.out.2.2.2.2.2.2.2
            clear hy
            go_wp2_with fail
            refine CI2.out.mono ?_
            rintro x8 w8 ⟨rfl, rfl⟩
            go_upto_region 29 with fail
            go_upto_region 26 with (at_builtin; refine wpList_frpush H8.out.2.1 (k := y) hm' h38 rfl _ _ rfl rfl rfl rfl ?_)
            intro A12 c12 w9 hg9 hF9 hr9
            have hown9 : ∀ q, (Value.slice A' m' c').ownBlock = some q → b3 ≤ q ∧ q < wr.heap.size := fun q hq => H8.out.2.1.lt q hq
            have hG9 := H8.out.1.grown hg9 (fun b hb c => by have := (hown9 b c).1; have := H3.out.2.2.2.1 _ b hNs.out hb; omega)
            have hD9 : FR w9 b3 (.slice A11 (m10 + 1) c11) (D ++ [y0]) := H8.out.2.2.1.keep fun g hg hl => hg9.block g hl fun c => H8.out.2.2.2.2.2.1 g c.symm hg
            have hR9 : FR w9 w4.heap.size (.slice (some ⟨g5, o5, none⟩) m5 c5) R := H8.out.2.2.2.1.keep fun g hg hl => hg9.block g hl fun c => H8.out.2.2.2.2.2.2.1 g c.symm hg
            have hB9 : Below w.heap.size w w9 := H8.out.2.2.2.2.1.grown hg9 H8.out.2.2.2.2.1.size fun q hq => by have := (hown9 q hq).1; have := H2.out.2.2.2; have := hb3.out; have := H.out.2.2.size; omega
            have hA9 : ∀ q, (Value.slice A12 (m' + 1) c12).ownBlock = some q → (Value.slice A11 (m10 + 1) c11).ownBlock ≠ some q := fun q hq c => by
              rcases hr9 q hq with h | h
              · exact H8.out.2.2.2.2.2.1 q h c
              · have := (H8.out.2.2.1.lt q c).2; omega
            have hA10 : ∀ q, (Value.slice A12 (m' + 1) c12).ownBlock = some q → (Value.slice (some ⟨g5, o5, none⟩) m5 c5).ownBlock ≠ some q := fun q hq c => by
              rcases hr9 q hq with h | h
              · exact H8.out.2.2.2.2.2.2.1 q h c
              · have := (H8.out.2.2.2.1.lt q c).2; omega
            have H9 := Lib.hid (show _ ∧ _ ∧ _ ∧ _ ∧ _ ∧ _ ∧ _ ∧ _ from ⟨hG9, hF9, hD9, hR9, hB9, hA9, hA10, Nat.le_trans h38 hg9.size⟩)
            clear hg9 hF9 hr9 hG9 hD9 hR9 hB9 hA9 hA10 hown9
            go_wp2_with fail
            go_roundg (m5 - (j + 1))
            case measure => omega
            case rel => exact ⟨j + 1, A12, m' + 1, c12, HJM.out, rfl, by go_num, rfl, Lib.hid ⟨H9.out.1, by rw [take_next HYJ.out]; exact H9.out.2.1, H9.out.2.2⟩⟩
          · obtain rfl : m5 = j := by omega
            go_wp2_with fail
            go_roundg (n - (m10 + 1))
            case measure => omega
            case rel =>
              have htk : R.take m5 = R := List.take_of_length_le (by rw [← hlR.out]; exact Nat.le_refl _)
              refine ⟨_, M ++ R, D ++ [y0], A', m', c', A11, m10 + 1, c11, rfl, rfl, rfl, Lib.hid ⟨H8.out.1, hNs.out, by rw [← HY.out.2.1]; exact H5.out.2.1.1, by rw [← htk]; exact H8.out.2.1, H8.out.2.2.1, H8.out.2.2.2.2.2.1, H8.out.2.2.2.2.2.2.2, H8.out.2.2.2.2.1⟩⟩
      · obtain rfl : n = m10 := by omega
        go_wp2_with fail
        refine CR.out.mono ?_
        rintro x4 w4 ⟨A4, m4, c4, l4, rfl, F4, p4, e4, B4⟩
        have hall := H4.out.2.2.1.all (by rw [← hlD.out, H4.out.2.1]; omega)
        have h4 : m4 = 0 := by
          have hl := F4.len
          cases l4 with
          | nil => exact hl
          | cons y l =>
            obtain ⟨k, hk, _, h1, _⟩ := (e4 y).1 (by simp)
            rw [hall.1 k hk] at h1; cases h1
        have h9 : m9 = n := by rw [hlM.out, hall.2, H4.out.2.1]
        have hB := Lib.hid (H4.out.2.2.2.2.2.2.2.trans (B4.mono H4.out.2.2.2.2.2.2.2.size))
        subst h4
        subst h9
        clear F4 p4 e4 B4 hall CR
        go_wp2_with fail
        go_ret
        exact ⟨by simp, hB.out⟩
end Go.Proofs.Ytecimlbdcldkdaa
