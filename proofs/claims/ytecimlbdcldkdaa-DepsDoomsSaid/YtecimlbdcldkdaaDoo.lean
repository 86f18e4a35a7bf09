/- Walk of DepsDooms. -/
import Derived.Test.YtecimlbdcldkdaaDooP
import Derived.Test.YtecimlbdcldkdaaRord
import Derived.Test.YtecimlbdcldkdaaIn
import Derived.Deep.CutBlock
import Derived.Deep.RegionHeld3
namespace Go.Proofs.Ytecimlbdcldkdaa
open Go.RowKit Go.Maps Dep

/-- a row beside a graph -/
def Beside (w : World) (base : Nat) (d : GD) (s : GS) (v : Value) (l : List Nat) : Prop := FR w base v l ∧ ∀ q, v.ownBlock = some q → ¬ Foot d s q
/-- an act keeps the row beside it -/
theorem Beside.act {w w' : World} {base : Nat} {d : GD} {s : GS} {v : Value} {l : List Nat} (h : Beside w base d s v l) {x : Int} {n : Nat} {e : Nat → Int} {b : Bool} {er : Int} (hA : ActSaidB base d s x n e w b er w') : FR w' base v l :=
  h.1.keep fun g hg hl => hA.kept hl (h.2 g hg)

set_option maxRecDepth 100000 in
set_option maxHeartbeats 8000000 in
theorem walk_DepsDooms (A0 : Option Addr) (m c : Nat) (pk : Int) (hpk : In64 pk) {w : World} (hro : ∃ f, ActsIn w A0 m f) :
    Calls Try.prog 7 #[.slice A0 m c, .int .i64 pk] w fun x w' => x = .returned (.bool true) ∧ Below w.heap.size w w' := by
  obtain ⟨f, hro⟩ := hro
  have hm64 := hro.1
  have HR := Lib.hid hro.2
  have hpl := hpk.1
  have hpu := hpk.2
  clear hro hpk
  go_enter Try.func7, Try.ntmps7
  go_wp2_with fail
  refine (awake_any w).mono ?_
  rintro e w1 ⟨rfl, B1⟩
  have HB1 := Lib.hid B1
  clear B1
  go_wp2_with fail
  refine (new_any w1).mono ?_
  rintro e w2 ⟨d0, rfl, G2, B2⟩
  have H2 := Lib.hid (show _ ∧ _ ∧ _ ∧ _ from ⟨(⟨G2, Okg.none, rfl, rfl, fun k hk => absurd hk (Nat.not_lt_zero _)⟩ : Fresh0 w2 w1.heap.size d0.G 0 d0 GS.none), B2.size, HB1.out.trans (B2.mono HB1.out.size), HB1.out.size⟩)
  clear G2 B2
  generalize d0.G = G at *
  go_upto_block 0 with fail
  obtain ⟨base, hbase⟩ : ∃ b, Hid (w1.heap.size = b) := ⟨_, Lib.hid rfl⟩
  rw [hbase.out] at H2
  go_cut [7, 8, 9, 10] (fun s7 s8 s9 s10 wx => ∃ (n : Nat) (A7 : Option Addr) (c7 : Nat) (l7 : List Nat) (d : GD) (s : GS) (i9 i10 i8 : Value), s7 = .slice A7 n c7 ∧ s9 = i9 ∧ s10 = i10 ∧ s8 = i8 ∧ n ≤ 30 ∧ Hid (Fresh0 wx base G n d s ∧ base ≤ wx.heap.size ∧ Below w.heap.size w wx ∧ Beside wx base d s (.slice A7 n c7) l7))
  case first =>
    go_wp2_with fail
    go_loopg [7, 8] m (fun g s7 s8 wr => ∃ (i n : Nat) (A7 : Option Addr) (c7 : Nat), i ≤ m ∧ g = m - i ∧ s8 = .int .i64 i ∧ s7 = .slice A7 n c7 ∧ n ≤ i ∧ i ≤ 30 ∧ ∃ l7 d s, Hid (Fresh0 wr base G n d s ∧ base ≤ wr.heap.size ∧ Below w.heap.size w wr ∧ Beside wr base d s (.slice A7 n c7) l7))
    case atStart => exact ⟨0, 0, none, 0, by omega, by omega, rfl, rfl, by omega, by omega, [], d0, GS.none, Lib.hid ⟨H2.out.1, H2.out.2.1, H2.out.2.2.1, Or.inl ⟨rfl, rfl⟩, fun q hq => (by simp [Value.ownBlock] at hq)⟩⟩
    case round =>
      obtain ⟨i, n, A7, c7, him, hg, rfl, rfl, hni, hi30, l7, d, s, H⟩ := hrel
      have hn30 : n ≤ 30 := by omega
      have hn1m : n ≤ 1000000 := by omega
      have i0 : (0 : Int) ≤ (i : Int) := by omega
      by_cases h1 : i < m
      · have h1' : (i : Int) < (m : Int) := by omega
        by_cases h2 : i < 30
        · have h2' : (i : Int) < 30 := by omega
          obtain ⟨bl, off, rfl, hacts⟩ := HR.out (by omega)
          obtain ⟨k0, k1, k2, k3⟩ := (hacts i h1).pass H.out.2.2.1
          obtain ⟨a, ha⟩ : ∃ a, Hid (f i = a) := ⟨_, Lib.hid rfl⟩
          have hat := Lib.hid (hacts i h1)
          rw [ha.out] at hat k0 k1 k2 k3
          clear hacts k0 k3
          by_cases h3 : 20 < a.n
          · have h3' : (20 : Int) < (a.n : Int) := by omega
            go_wp2_with fail
            go_ret
            exact ⟨rfl, H.out.2.2.1⟩
          · have h3' : (a.n : Int) ≤ 20 := by omega
            have hid := hat.out.id64
            have hrow := hat.out.row
            have hN : s.N ≤ 900 := by rw [H.out.1.N]; omega
            have hOut : NumsOut wr d s a.A a.n a.e := hrow.out H.out.1.gm H.out.2.2.1 H2.out.2.2.2 (by omega)
            have C := Lib.hid (fun (W : World) (hW : wr.heap = W.heap) => act_addB (w := W) H.out.1.gm H.out.1.ok hN H.out.2.1 a.id hid a.A a.n a.c a.e hOut hW)
            rw [H.out.1.g] at C
            obtain ⟨x, hx⟩ : ∃ x, Hid (a.id = x) := ⟨_, Lib.hid rfl⟩
            obtain ⟨An, hAn⟩ : ∃ x, Hid (a.A = x) := ⟨_, Lib.hid rfl⟩
            obtain ⟨na, hna⟩ : ∃ x, Hid (a.n = x) := ⟨_, Lib.hid rfl⟩
            obtain ⟨ca, hca⟩ : ∃ x, Hid (a.c = x) := ⟨_, Lib.hid rfl⟩
            rw [hx.out, hAn.out, hna.out, hca.out] at C
            rw [hAn.out, hna.out, hca.out] at k2
            rw [hx.out] at k1
            rw [hna.out] at h3 h3'
            have hbl := hat.out.lt
            have HK := Lib.hid (show ∀ w' b er, ActSaidB base d s x na a.e wr.drew b er w' → w'.cell? ⟨bl, off + i * 4 + 1, none⟩ = some (.int .i64 x) ∧ w'.cell? ⟨bl, off + i * 4 + 2, none⟩ = some (.slice An na ca) from fun w' b er hS => by
              have hh := hS.kept (g := bl) (by have := H2.out.2.2.2; have := H.out.2.1; show bl < wr.heap.size; omega) (fun c => by have := (H.out.1.gm.foot_lt bl c).1; have := H2.out.2.2.2; omega)
              exact ⟨(World.cell?_of_block hh).trans k1, (World.cell?_of_block hh).trans k2⟩)
            clear hid hrow hOut hbl
            go_upto_region 11 with fail
            go_region_held3 (fun w' => w'.cell? ⟨bl, off + i * 4 + 1, none⟩ = some (.int .i64 x) ∧ w'.cell? ⟨bl, off + i * 4 + 2, none⟩ = some (.slice An na ca)) (first | (refine ⟨?_, ?_⟩ <;> assumption) | assumption | exact HK.out _ _ _ (by assumption)) (first | (go_at_call 20; refine (C.out wr.drew rfl).mono ?_; rintro e w' ⟨b, er, rfl, hS⟩))
            have HS := Lib.hid hS
            have hDr : Hid (Fresh0 wr.drew base G n d s ∧ base ≤ wr.drew.heap.size ∧ Below w.heap.size w wr.drew ∧ Beside wr.drew base d s (.slice A7 n c7) l7) := Lib.hid ⟨H.out.1.alike rfl, H.out.2.1, H.out.2.2.1.drew, H.out.2.2.2⟩
            have hwb := H2.out.2.2.2
            obtain ⟨k1, k2⟩ := HK.out _ _ _ hS
            by_cases her : er = 0
            · subst her
              have hnew : ∃ (kx : Nat) (d' : GD) (s' : GS), x = (kx : Int) ∧ Hid (Fresh0 w' base G (n + 1) d' s' ∧ base ≤ w'.heap.size ∧ Below w.heap.size w w' ∧ Beside w' base d' s' (.slice A7 n c7) l7) := by
                have hF := hDr.out.2.2.2.act HS.out
                rcases HS.out with ⟨h, _⟩ | ⟨_, _, _, _, k, d', s', e1, e2, e3, e4, e5, e6, e7⟩
                · cases h
                · refine ⟨k, d', s', e1, Lib.hid ⟨hDr.out.1.add e2 e3 e4 e5, Nat.le_trans hDr.out.2.1 e7.size, e7.toBelow hDr.out.2.2.1 hDr.out.2.2.1.size fun b hb => ?_, hF, fun q hq c => ?_⟩⟩
                  · have := (hDr.out.1.gm.foot_lt b hb).1
                    omega
                  · rcases e6 q c with h | h
                    · exact hDr.out.2.2.2.2 q hq h
                    · have := (hDr.out.2.2.2.1.lt q hq).2; omega
              obtain ⟨kx, d', s', rfl, H'⟩ := hnew
              have hbw := H'.out.2.1
              clear hS
              go_upto_region 13 with fail
              go_upto_region 8 with (at_builtin; refine wpList_frpush H'.out.2.2.2.1 (k := kx) hn1m hbw rfl _ _ rfl rfl rfl rfl ?_)
              intro A8 c8 W' hg8 hF8 hr8
              have hnew : Hid (Fresh0 W' base G (n + 1) d' s' ∧ base ≤ W'.heap.size ∧ Below w.heap.size w W' ∧ Beside W' base d' s' (.slice A8 (n + 1) c8) (l7 ++ [kx])) := by
                refine Lib.hid ⟨⟨H'.out.1.gm.grown hg8 (fun b hb c => H'.out.2.2.2.2 b c hb), H'.out.1.ok, H'.out.1.g, H'.out.1.N, H'.out.1.ov⟩, Nat.le_trans hbw hg8.size, H'.out.2.2.1.grown hg8 H'.out.2.2.1.size fun q hq => ?_, hF8, fun q hq c => ?_⟩
                · have := (H'.out.2.2.2.1.lt q hq).1; omega
                · rcases hr8 q hq with h | h
                  · exact H'.out.2.2.2.2 q h c
                  · have := (H'.out.1.gm.foot_lt q c).2; omega
              clear hg8 hF8 hr8 k1 k2
              go_wp2_with fail
              go_roundg (m - (i + 1))
              case measure => omega
              case rel => exact ⟨i + 1, n + 1, A8, c8, by omega, rfl, by go_num, rfl, by omega, by omega, _, d', s', hnew⟩
            · have her2 : (er == 0) = false := by simp [her]
              have hnew : Hid (Fresh0 w' base G n d s ∧ base ≤ w'.heap.size ∧ Below w.heap.size w w' ∧ Beside w' base d s (.slice A7 n c7) l7) := by
                rcases HS.out with ⟨_, _, h, _⟩ | ⟨h, _⟩
                · rw [h]; exact hDr
                · exact absurd h her
              clear hS k1 k2
              go_wp2_with fail
              go_roundg (m - (i + 1))
              case measure => omega
              case rel => exact ⟨i + 1, n, A7, c7, by omega, rfl, by go_num, rfl, by omega, by omega, l7, d, s, hnew⟩
        · go_wp2_with fail
          go_meet
          exact ⟨n, A7, c7, l7, d, s, _, _, _, rfl, rfl, rfl, rfl, hn30, H⟩
      · go_wp2_with fail
        go_meet
        exact ⟨n, A7, c7, l7, d, s, _, _, _, rfl, rfl, rfl, rfl, hn30, H⟩
  case rest =>
    obtain ⟨n, A7, c7, l7, d, s, i9, i10, i8, rfl, rfl, rfl, rfl, hn30, H⟩ := hcut
    have C := Lib.hid (ready_any H.out.1.gm (by rw [H.out.1.N]; omega))
    rw [H.out.1.g] at C
    go_upto_region 14 with fail
    go_wp2_with fail
    refine C.out.mono ?_
    rintro x3 w3 ⟨A3, m3, c3, l3, rfl, F3, p3, e3, B3⟩
    obtain ⟨b3, hb3⟩ : ∃ b, Hid (wc.heap.size = b) := ⟨_, Lib.hid rfl⟩
    rw [hb3.out] at F3 B3
    have hfoot : ∀ (s' : GS) (b : Nat), s'.N = n → Foot d s' b → b < b3 := fun s' b hN hb => by
      have : Foot d s b := by unfold Foot at hb ⊢; rw [hN] at hb; rw [H.out.1.N]; exact hb
      rw [← hb3.out]; exact (H.out.1.gm.foot_lt b this).2
    have hop : ∀ k, k < s.N → s.ov k = false := fun k hk => H.out.1.ov k (by rw [← H.out.1.N]; exact hk)
    have hB3 : Below w.heap.size w w3 := H.out.2.2.1.trans (B3.mono (by rw [← hb3.out]; exact H.out.2.2.1.size))
    by_cases hm0 : m3 = 0
    · have hn0 : n = 0 := by
        apply Classical.byContradiction
        intro c
        obtain ⟨k, hk, h1, h2⟩ := H.out.1.ok.ready 0 (by rw [H.out.1.N]; omega) (hop 0 (by rw [H.out.1.N]; omega))
        have hm := (e3 (s.id k)).2 ⟨k, hk, rfl, h1, h2⟩
        have := F3.len
        have := List.length_pos_of_mem hm
        omega
      subst hm0
      subst hn0
      have HB3 := Lib.hid hB3
      clear C F3 p3 e3 B3 hfoot hop hB3
      go_wp2_with fail
      go_ret
      exact ⟨rfl, HB3.out⟩
    have hm3 : ((m3 : Int) == 0) = false := by simp; omega
    have H3 := Lib.hid (show _ ∧ _ ∧ _ ∧ _ ∧ _ ∧ _ ∧ _ from ⟨F3, H.out.1.gm.pass (by rw [hb3.out]; exact B3), hfoot, hB3, (by rw [← hb3.out]; exact B3.size : b3 ≤ w3.heap.size), hop, e3⟩)
    have hlen3 := Lib.hid F3.len
    clear F3 p3 e3 B3 hfoot hop hB3 C
    go_upto_if 79 with fail
    go_cut [1] (fun s1 wx => ∃ p : Nat, s1 = .int .i64 p ∧ p ≤ 9223372036854775807 ∧ w3 = wx)
    case first =>
      by_cases hneg : pk < 0
      · go_wp2_with fail
        go_meet
        exact ⟨(-(pk + 1)).toNat, by congr 1; omega, by omega, rfl⟩
      · go_wp2_with fail
        go_meet
        exact ⟨pk.toNat, by congr 1; omega, by omega, rfl⟩
    case rest =>
      obtain ⟨p, rfl, hp, rfl⟩ := hcut
      have hp0 : (0 : Int) ≤ (p : Int) := by omega
      have hlt : p % m3 < m3 := Nat.mod_lt _ (by omega)
      have htm : (p : Int).tmod (m3 : Int) = ((p % m3 : Nat) : Int) := by rw [Int.ofNat_tmod]
      obtain ⟨q, hq⟩ : ∃ q, Hid (p % m3 = q) := ⟨_, Lib.hid rfl⟩
      rw [hq.out] at hlt htm
      have hq1 : (q : Int) < (m3 : Int) := by omega
      have hq0 : (0 : Int) ≤ (q : Int) := by omega
      obtain ⟨y0, hy0⟩ : ∃ y, l3[q]? = some y := ⟨_, List.getElem?_eq_getElem (by rw [← hlen3.out]; exact hlt)⟩
      obtain ⟨g3, o3, rfl, ca⟩ := H3.out.1.cellAt hy0
      obtain ⟨i, hi, hyi, hio, hiw⟩ := (H3.out.2.2.2.2.2.2 y0).1 (List.mem_of_getElem? hy0)
      have hm4 := H3.out.2.1.m
      obtain ⟨f4, hm4, _⟩ := hm4
      have hy64 : Nat64 y0 := hm4.key y0 (mem_ids.2 ⟨i, hi, hyi⟩)
      have CF := Lib.hid (fin_any H3.out.2.1 (by rw [H.out.1.N]; omega) (fun k hk => by have := H.out.1.ok.blen hk; have := H.out.1.N; omega) H.out.1.ok.ids H.out.1.ok.nd (y0 : Int) hy64.int false)
      rw [H.out.1.g] at CF
      have HY := Lib.hid (show _ ∧ _ ∧ _ ∧ _ from ⟨hi, hyi, hio, hiw⟩)
      clear hm4 hy0 hi hyi hio hiw
      go_wp2_with fail
      refine CF.out.mono ?_
      intro x5 w5 hS
      rcases hS with ⟨hn5, _⟩ | ⟨i5, h51, h52, h53, _⟩ | ⟨i5, h51, h52, h53, h54, A5, m5, c5, R, B5, n5, c5', Dd, ov', rfl, hf, hG5, hR5, pR, eR, hD5, pD, eD, hE5⟩
      · exact absurd ⟨i, HY.out.1, by rw [HY.out.2.1]⟩ hn5
      · have : i5 = i := H.out.1.gm.inj h51 HY.out.1 (by have := HY.out.2.1; omega)
        rw [this] at h53
        exact absurd ⟨HY.out.2.2.1, HY.out.2.2.2⟩ h53
      obtain ⟨hnot, hD0⟩ := DoomAt.first H.out.1.ok H3.out.2.2.2.2.2.1 h51 hf pD eD
      have hyb : s.id i5 = y0 := by omega
      rw [hyb] at hD0
      have hD0 : DoomAt n y0 Dd { s with ov := ov', wl := upd s.wl i5 false, ws := wsP s i5 (s.bl i5).length } (y0 :: Dd) := ⟨H.out.1.N, hD0.e, hD0.b, hD0.l⟩
      rw [hyb] at hnot
      have hDl := Lib.hid hD5.len
      have hle := hD0.len
      rw [List.length_cons, ← hDl.out] at hle
      have hB5 : Below w.heap.size w w5 := hE5.toBelow H3.out.2.2.2.1 H3.out.2.2.2.1.size fun b hb => by have := (H3.out.2.1.foot_lt b hb).1; have := H2.out.2.2.2; omega
      have CI := Lib.hid (in_any B5 n5 c5' (fun j => ((Dd.getD j 0 : Nat) : Int)) (y0 : Int) false ⟨fun h => (by cases h), fun ⟨j, hj, e⟩ => by
        exfalso
        have hj2 : j < Dd.length := by rw [← hDl.out]; exact hj
        refine hnot ?_
        have : Dd.getD j 0 = y0 := by have e' : ((Dd.getD j 0 : Nat) : Int) = (y0 : Int) := e; omega
        rw [← this, List.getD_eq_getElem?_getD, List.getElem?_eq_getElem hj2]
        exact List.getElem_mem hj2⟩ (by omega) w5 hD5.nums)
      have H4 := Lib.hid (show _ ∧ _ ∧ _ ∧ _ ∧ _ from ⟨hG5, hD0, hD5, hB5, hE5.size⟩)
      obtain ⟨k0, hk0⟩ : ∃ k0, Hid (n = k0 + 1 + n5) := ⟨n - 1 - n5, Lib.hid (by omega)⟩
      have hn1 : (n : Int) ≤ 30 := by omega
      have hn2 : (1 : Int) + (n5 : Int) ≤ (n : Int) := by omega
      obtain ⟨b5, hb5⟩ : ∃ b, Hid (w3.heap.size = b) := ⟨_, Lib.hid rfl⟩
      rw [hb5.out] at H4
      clear hG5 hD0 hD5 hB5 hE5 hnot hR5 pR eR pD eD hf h51 h52 h53 h54 hyb ca CF
      go_wp2_with fail
      refine CI.out.mono ?_
      rintro x6 w6 ⟨rfl, rfl⟩
      go_wp2_with fail
      rename World => w6
      go_loopg [17] k0 (fun g s17 wr => ∃ (j : Nat) (s' : GS) (D : List Nat), j ≤ k0 ∧ g = k0 - j ∧ s17 = .int .i64 j ∧ Hid (Gm wr base d s' ∧ DoomAt n y0 Dd s' D ∧ D.length = n5 + 1 + j ∧ FR wr b5 (.slice B5 n5 c5') Dd ∧ b5 ≤ wr.heap.size ∧ Below w.heap.size w wr))
      case atStart => exact ⟨0, _, y0 :: Dd, by omega, by omega, rfl, Lib.hid ⟨H4.out.1, H4.out.2.1, by have := hDl.out; rw [List.length_cons]; omega, H4.out.2.2.1, H4.out.2.2.2.2, H4.out.2.2.2.1⟩⟩
      case round =>
        obtain ⟨j, s', D, hj, hg, rfl, H5⟩ := hrel
        have CR := Lib.hid (ready_any H5.out.1 (by rw [H5.out.2.1.N]; omega))
        rw [H.out.1.g] at CR
        have hj0 : (0 : Int) ≤ (j : Int) := by omega
        have hfoot : ∀ b, Foot d s' b → b < b3 := fun b hb => H3.out.2.2.1 s' b H5.out.2.1.N hb
        have hb35 : b3 ≤ b5 := by rw [← hb5.out]; exact H3.out.2.2.2.2.1
        by_cases hjk : j < k0
        · have hjk' : (j : Int) < (n : Int) - 1 - (n5 : Int) := by have := hk0.out; omega
          go_wp2_with fail
          refine CR.out.mono ?_
          rintro x7 w7 ⟨A4, m4, c4, l4, rfl, F4, p4, e4, B4⟩
          obtain ⟨r, hr, hro, hrw⟩ := H5.out.2.1.one (by have := H5.out.2.2.1; have := hk0.out; omega)
          have hmem : s'.id r ∈ l4 := (e4 _).2 ⟨r, hr, rfl, hro, hrw⟩
          have hl4 := F4.len
          have hpos : 0 < m4 := by rw [hl4]; exact List.length_pos_of_mem hmem
          obtain ⟨y1, hy1⟩ : ∃ y, l4[0]? = some y := ⟨_, List.getElem?_eq_getElem (by omega)⟩
          obtain ⟨i1, hi1, hyi1, hio1, hiw1⟩ := (e4 y1).1 (List.mem_of_getElem? hy1)
          obtain ⟨g4, o4, rfl, ca⟩ := F4.cellAt hy1
          rw [Nat.add_zero] at ca
          have hg4 := F4.lt g4 rfl
          have hG4 := H5.out.1.pass B4
          obtain ⟨f4, hm4, _⟩ := hG4.m
          have hy64 : Nat64 y1 := hm4.key y1 (mem_ids.2 ⟨i1, hi1, hyi1⟩)
          have CF := Lib.hid (fin_any hG4 (by rw [H5.out.2.1.N]; omega) (fun k hk => by have := H5.out.2.1.ok.blen hk; have := H5.out.2.1.N; omega) H5.out.2.1.ok.ids H5.out.2.1.ok.nd (y1 : Int) hy64.int true)
          rw [H.out.1.g] at CF
          have hnot1 := H5.out.2.1.over hi1 hio1
          rw [hyi1] at hnot1
          have hD7 : FR w7 b5 (.slice B5 n5 c5') Dd := H5.out.2.2.2.1.pass B4
          have CI2 := Lib.hid (in_any B5 n5 c5' (fun j => ((Dd.getD j 0 : Nat) : Int)) (y1 : Int) false ⟨fun h => (by cases h), fun ⟨j, hj, e⟩ => by
            exfalso
            have hj2 : j < Dd.length := by rw [← hDl.out]; exact hj
            refine hnot1 ?_
            have : Dd.getD j 0 = y1 := by have e' : ((Dd.getD j 0 : Nat) : Int) = (y1 : Int) := e; omega
            rw [← this, List.getD_eq_getElem?_getD, List.getElem?_eq_getElem hj2]
            exact List.getElem_mem hj2⟩ (by omega) w7 hD7.nums)
          have HY1 := Lib.hid (show _ ∧ _ ∧ _ ∧ _ ∧ _ ∧ _ ∧ _ from ⟨hi1, hyi1, hio1, hiw1, hG4, hD7, B4⟩)
          have hpos' : (0 : Int) < (m4 : Int) := by omega
          have hne : ((m4 : Int) == 0) = false := by simp; omega
          clear F4 p4 e4 B4 CR hr hro hrw hmem hl4 hy1 hi1 hyi1 hio1 hiw1 hG4 hg4 hm4 hy64 hnot1 hD7
          go_wp2_with fail
          refine CI2.out.mono ?_
          rintro x8 w8 ⟨rfl, rfl⟩
          go_wp2_with fail
          refine CF.out.mono ?_
          intro x9 w9 hS
          rcases hS with ⟨hn9, _⟩ | ⟨i9, h91, h92, h93, _⟩ | ⟨i9, h91, h92, h93, h94, A9, m9, c9, R9, B9, n9, c9', Dd9, ov9, rfl, hf, hG9, _, pR, eR, hD9, _, eD, hE9⟩
          · exact absurd ⟨i1, HY1.out.1, by rw [HY1.out.2.1]⟩ hn9
          · have : i9 = i1 := H5.out.1.inj h91 HY1.out.1 (by have := HY1.out.2.1; omega)
            rw [this] at h93
            exact absurd ⟨HY1.out.2.2.1, HY1.out.2.2.2.1⟩ h93
          have hi9 : i9 = i1 := H5.out.1.inj h91 HY1.out.1 (by have := HY1.out.2.1; omega)
          subst hi9
          have hst := H5.out.2.1.step h91 HY1.out.2.2.1 HY1.out.2.2.2.1 hf pR eR
          have hDd : Dd9 = [] := List.eq_nil_iff_forall_not_mem.2 fun y hy => by
            obtain ⟨k, hk, _, h1, h2⟩ := (eD y).1 hy
            rw [hf.good rfl k hk, h1] at h2
            cases h2
          have hn9 : n9 = 0 := by rw [hD9.len, hDd]; rfl
          subst hn9
          have hB4 := HY1.out.2.2.2.2.2.2
          have hL9 : FR w9 b5 (.slice B5 n5 c5') Dd := HY1.out.2.2.2.2.2.1.keep fun g hg hl => hE9.block g hl fun c => by have := (HY1.out.2.2.2.2.2.1.lt g hg).1; have := hfoot g c; omega
          have hB9 : Below w.heap.size w w9 := hE9.toBelow (H5.out.2.2.2.2.2.trans (hB4.mono H5.out.2.2.2.2.2.size)) (Nat.le_trans H5.out.2.2.2.2.2.size hB4.size) fun b hb => by have := (H5.out.1.foot_lt b hb).1; have := H2.out.2.2.2; omega
          have H9 := Lib.hid (show _ ∧ _ ∧ _ ∧ _ ∧ _ from ⟨hG9, hst, hL9, hB9, Nat.le_trans H5.out.2.2.2.2.1 (Nat.le_trans hB4.size hE9.size)⟩)
          have hD1 : (D ++ [s'.id i9]).length = n5 + 1 + (j + 1) := by have := H5.out.2.2.1; rw [List.length_append, List.length_singleton]; omega
          have HD1 := Lib.hid hD1
          have HJ := Lib.hid (show j + 1 ≤ k0 from hjk)
          clear hG9 hst hL9 hB9 hE9 pR eR eD hD9 hDd CF hf hB4 hD1 hfoot
          go_wp2_with fail
          go_roundg (k0 - (j + 1))
          case measure => omega
          case rel => exact ⟨j + 1, _, _, HJ.out, rfl, by go_num, Lib.hid ⟨H9.out.1, H9.out.2.1, HD1.out, H9.out.2.2.1, H9.out.2.2.2.2, H9.out.2.2.2.1⟩⟩
        · obtain rfl : k0 = j := by omega
          have hfull : ¬ D.length < n := by have := H5.out.2.2.1; have := hk0.out; omega
          have hstop : ¬ (k0 : Int) < (n : Int) - 1 - (n5 : Int) := by have := hk0.out; omega
          have hN := H5.out.2.1.N
          have hGa := H5.out.1.alloc (.cells #[.int .i64 (y0 : Int)] 3)
          have hNums : NumsOut (wr.alloc (.cells #[.int .i64 (y0 : Int)] 3)) d s' (some ⟨wr.heap.size, 0, none⟩) 1 (fun _ => (y0 : Int)) := ⟨by omega, fun _ => hy64.int, fun _ => ⟨wr.heap.size, 0, rfl, fun c => by have := (H5.out.1.foot_lt _ c).2; omega, fun j hj => by
            obtain rfl : j = 0 := by omega
            exact (Bk.new wr 3 #[.int .i64 (y0 : Int)]).cell (i := 0) rfl⟩⟩
          have hbs : base ≤ (wr.alloc (.cells #[.int .i64 (y0 : Int)] 3)).heap.size := by have := H.out.2.1; have := hb3.out; have := H5.out.2.2.2.2.1; rw [World.size_alloc]; omega
          have CA := Lib.hid (act_addB (w := wr.alloc (.cells #[.int .i64 (y0 : Int)] 3)) hGa H5.out.2.1.ok (by rw [hN]; omega) hbs 1099511627776 ⟨by omega, by omega⟩ (some ⟨wr.heap.size, 0, none⟩) 1 1 (fun _ => (y0 : Int)) hNums rfl)
          rw [H.out.1.g] at CA
          have HGa := Lib.hid hGa
          have HFull := Lib.hid hfull
          clear hGa hNums hbs hfull hN CR hfoot
          go_wp2_with fail
          refine CA.out.mono ?_
          rintro x8 w8 ⟨b8, er8, rfl, hS8⟩
          obtain ⟨hcase, d8, s8, hG8, hGm8, hN8, hall8, hE8⟩ := H5.out.2.1.last HFull.out (by omega) HGa.out hS8
          have CR := Lib.hid (ready_any hGm8 (by omega))
          rw [hG8, H.out.1.g] at CR
          have HB8 := Lib.hid (hE8.toBelow (H5.out.2.2.2.2.2.alloc H5.out.2.2.2.2.2.size _) (Nat.le_trans H5.out.2.2.2.2.2.size (by simp)) fun b hb => by have := (H5.out.1.foot_lt b hb).1; have := H2.out.2.2.2; omega)
          have HA8 := Lib.hid hall8
          clear hS8 hGm8 hall8 hE8 hN8 hG8
          rcases hcase with rfl | ⟨rfl, rfl⟩
          · go_wp2_with fail
            refine CR.out.mono ?_
            rintro x9 w9 ⟨A9, m9, c9, l9, rfl, F9, p9, e9, B9⟩
            have h9 : m9 = 0 := by
              have hl := F9.len
              cases l9 with
              | nil => exact hl
              | cons y l =>
                obtain ⟨k, hk, _, h1, _⟩ := (e9 y).1 (by simp)
                rw [HA8.out k hk] at h1; cases h1
            subst h9
            have hB := Lib.hid (HB8.out.trans (B9.mono HB8.out.size))
            clear F9 p9 e9 B9 CR
            go_wp2_with fail
            go_ret
            exact ⟨rfl, hB.out⟩
          · go_wp2_with fail
            refine CR.out.mono ?_
            rintro x9 w9 ⟨A9, m9, c9, l9, rfl, F9, p9, e9, B9⟩
            have h9 : m9 = 0 := by
              have hl := F9.len
              cases l9 with
              | nil => exact hl
              | cons y l =>
                obtain ⟨k, hk, _, h1, _⟩ := (e9 y).1 (by simp)
                rw [HA8.out k hk] at h1; cases h1
            subst h9
            have hB := Lib.hid (HB8.out.trans (B9.mono HB8.out.size))
            clear F9 p9 e9 B9 CR
            go_wp2_with fail
            go_ret
            exact ⟨rfl, hB.out⟩
end Go.Proofs.Ytecimlbdcldkdaa
