/- The reference's Finish: the graph behind it, who is ready thereby, who is doomed; or why not. -/
import Derived.Test.YtecimlbdcldkdaaRfp
namespace Go.Proofs.Ytecimlbdcldkdaa
open Go.RowKit Go.Sort Go.Maps Dep

theorem keepB5 {w w' : World} {p1 p2 p3 p4 p5 : Addr} {v1 v2 v3 v4 v5 : Value} (h : w.cell? p1 = some v1 ∧ w.cell? p2 = some v2 ∧ w.cell? p3 = some v3 ∧ w.cell? p4 = some v4 ∧ w.cell? p5 = some v5) (hb : Below w.heap.size w w') : w'.cell? p1 = some v1 ∧ w'.cell? p2 = some v2 ∧ w'.cell? p3 = some v3 ∧ w'.cell? p4 = some v4 ∧ w'.cell? p5 = some v5 :=
  ⟨keep_below h.1 hb, keep_below h.2.1 hb, keep_below h.2.2.1 hb, keep_below h.2.2.2.1 hb, keep_below h.2.2.2.2 hb⟩
theorem RW.fin {r : RS} (h : RW r) (i : Nat) (well : Bool) (O : Nat → Bool) : RW (r.fin i well O) := ⟨h.inj, h.af, h.n20⟩
def RFinSaid (r : RS) (A : Option Addr) (n cap : Nat) (x : Int) (well : Bool) (w : World) (e : Ending) (w' : World) : Prop :=
  Below w.heap.size w w' ∧
  (((¬ ∃ i, i < r.N ∧ (r.id i : Int) = x) ∧ e = .returned (.tuple #[.agg #[.slice A n cap], .slice none 0 0, .slice none 0 0, .int .i64 90])) ∨
   (∃ i, i < r.N ∧ (r.id i : Int) = x ∧ ¬ (r.ov i = false ∧ ∀ z, ¬ WtR r x z) ∧ e = .returned (.tuple #[.agg #[.slice A n cap], .slice none 0 0, .slice none 0 0, .int .i64 100])) ∨
   (∃ i, i < r.N ∧ (r.id i : Int) = x ∧ r.ov i = false ∧ (∀ z, ¬ WtR r x z) ∧ ∃ (g k5 : Nat) (O : Nat → Bool) (B : Option Addr) (m c : Nat) (R : List Nat) (B2 : Option Addr) (m2 c2 : Nat) (D : List Nat), e = .returned (.tuple #[.agg #[.slice (some ⟨g, 0, none⟩) n k5], .slice B m c, .slice B2 m2 c2, .int .i64 0]) ∧ w.heap.size ≤ g ∧ JobsIn w' (some ⟨g, 0, none⟩) (r.fin i well O) ∧
     SoundO r i well O ∧ (∀ k, k < r.N → O k = false → ¬ BadR (r.fin i well O) (r.n k) (r.e k)) ∧
     FR w' w.heap.size (.slice B m c) R ∧ R.Pairwise (· < ·) ∧ (∀ y, y ∈ R ↔ RdR (r.fin i well O) y ∧ ¬ RdR r y) ∧ FR w' w.heap.size (.slice B2 m2 c2) D ∧ DoomL r i O D))

set_option maxRecDepth 100000 in
set_option maxHeartbeats 8000000 in
theorem rfin_any {w : World} {A : Option Addr} {r : RS} (hJ : JobsIn w A r) (hA : AftersIn w r) (hr : RW r) (hN : r.N ≤ 1000) (n cap : Nat) (hn : n = r.N) (x : Int) (well : Bool) :
    Calls Try.prog 25 #[.agg #[.slice A n cap], .int .i64 x, .bool well] w (RFinSaid r A n cap x well w) := by
  have H := Lib.hid (show _ ∧ _ ∧ _ from ⟨hJ, hA, hr⟩)
  have HN := Lib.hid hn
  have hn1 : (n : Int) ≤ 1000 := by omega
  have hb0 : Below w.heap.size w ((w.alloc (.cells #[.slice A n cap] 50)).alloc (.cells #[.slice none 0 0] 50)) := ((Below.refl _ _).alloc (Nat.le_refl _) _).alloc (by simp) _
  have C := Lib.hid (at_any (hJ.keep hb0) hN n cap hn x)
  clear hJ hn hA hr
  go_enter Try.func25, Try.ntmps25
  go_wp2_with fail
  refine C.out.mono ?_
  rintro e w1 ⟨⟨z, rfl, hz⟩, B1⟩
  have H1 := Lib.hid (show Below w.heap.size w w1 ∧ Bk w1 w.heap.size 50 #[.slice A n cap] ∧ Bk w1 (w.heap.size + 1) 50 #[.slice none 0 0] from ⟨hb0.trans (B1.mono (by simp; omega)), ((Bk.new w _ _).alloc _).pass B1, (Bk.newAt (by simp)).pass B1⟩)
  clear B1 C hb0
  have cb : w1.cell? ⟨w.heap.size, 0, none⟩ = some (.slice A n cap) := H1.out.2.1.cell rfl
  have z0 : w1.cell? ⟨w.heap.size + 1, 0, none⟩ = some (.slice none 0 0) := H1.out.2.2.cell rfl
  have f0 := H1.out.2.2.free 0
  by_cases hin : ∃ i, i < r.N ∧ (r.id i : Int) = x
  case neg =>
    obtain rfl := hz.none (fun i hi e => hin ⟨i, hi, e⟩)
    have HNO := Lib.hid hin
    clear hin hz
    go_wp2_with fail
    exact bodyPost_ret (v := .tuple #[.agg #[.slice A n cap], .slice none 0 0, .slice none 0 0, .int .i64 90]) (by simp [results, Try.results25, go_sem, z0]) rfl ⟨H1.out.1.setCell (by dsimp only; omega) _, Or.inl ⟨HNO.out, rfl⟩⟩
  case pos =>
    obtain ⟨i, hi, hx⟩ := hin
    obtain rfl := hz.some H.out.2.2 hi hx
    have HX := Lib.hid hx
    clear hz hx
    have i0 : (0 : Int) ≤ (i : Int) := by omega
    have i1 : (i : Int) < (n : Int) := by have := HN.out; omega
    obtain ⟨bl, off, rfl, hc⟩ := H.out.1 (by omega)
    have hat := (hc i hi).keep (H1.out.1.block bl (hc i hi).lt)
    clear hc
    have c2 := hat.c2
    clear hat
    obtain ⟨ov, hov⟩ : ∃ b, Hid (r.ov i = b) := ⟨_, Lib.hid rfl⟩
    rw [hov.out] at c2
    cases ov with
    | true =>
      go_wp2_with fail
      exact bodyPost_ret (v := .tuple #[.agg #[.slice (some ⟨bl, off, none⟩) n cap], .slice none 0 0, .slice none 0 0, .int .i64 100]) (by simp [results, Try.results25, go_sem, z0]) rfl ⟨H1.out.1.setCell (by dsimp only; omega) _, Or.inr (Or.inl ⟨i, hi, HX.out, fun h => (by have := h.1; rw [hov.out] at this; cases this), rfl⟩)⟩
    | false =>
      have CW := Lib.hid (rwaits_any (H.out.1.keep H1.out.1) (H.out.2.1.keep H1.out.1) H.out.2.2 hN n cap HN.out x)
      go_wp2_with fail
      refine CW.out.mono ?_
      rintro e w2 ⟨B2, m2, k2, l2, rfl, hF2, hp2, hm2, hb2⟩
      have H2 := Lib.hid (show _ ∧ _ ∧ _ from ⟨below_pass H1.out.1 H1.out.1.size hb2, H1.out.2.1.pass hb2, H1.out.2.2.pass hb2⟩)
      have hl2 := hF2.len
      clear hF2 hp2 hb2 CW c2 cb z0 f0
      have cb : w2.cell? ⟨w.heap.size, 0, none⟩ = some (.slice (some ⟨bl, off, none⟩) n cap) := H2.out.2.1.cell rfl
      have z0 : w2.cell? ⟨w.heap.size + 1, 0, none⟩ = some (.slice none 0 0) := H2.out.2.2.cell rfl
      have f0 := H2.out.2.2.free 0
      by_cases hz : m2 = 0
      case neg =>
        have hd : (0 : Int) < (m2 : Int) := by omega
        have hwt : Hid (∃ z, WtR r x z) := Lib.hid (by
          cases l2 with
          | nil => exact absurd hl2 hz
          | cons a t => exact ⟨a, (hm2 a).1 (by simp)⟩)
        clear hm2 hl2
        go_wp2_with fail
        exact bodyPost_ret (v := .tuple #[.agg #[.slice (some ⟨bl, off, none⟩) n cap], .slice none 0 0, .slice none 0 0, .int .i64 100]) (by simp [results, Try.results25, go_sem, z0]) rfl ⟨H2.out.1.setCell (by dsimp only; omega) _, Or.inr (Or.inl ⟨i, hi, HX.out, fun h => (by obtain ⟨z, hz⟩ := hwt.out; exact h.2 z hz), rfl⟩)⟩
      case pos =>
        have hnw : Hid (∀ z, ¬ WtR r x z) := Lib.hid fun z hz2 => by
          have := (hm2 z).2 hz2
          rw [hz] at hl2
          rw [List.eq_nil_of_length_eq_zero hl2.symm] at this
          cases this
        subst hz
        clear hm2 hl2
        have CR := Lib.hid (rready_any (H.out.1.keep H2.out.1) (H.out.2.1.keep H2.out.1) H.out.2.2 hN n cap HN.out)
        go_wp2_with fail
        refine CR.out.mono ?_
        rintro e w3 ⟨Bw, mw, kw, lw, rfl, hFw, hpw, hmw, hlw, hb3⟩
        have H3 := Lib.hid (show _ ∧ _ ∧ _ ∧ _ ∧ _ ∧ _ from ⟨below_pass H2.out.1 H2.out.1.size hb3, H2.out.2.1.pass hb3, H2.out.2.2.pass hb3, hFw.mono H2.out.1.size, hmw, hlw⟩)
        clear hFw hpw hmw hlw hb3 CR cb z0 f0
        have cb : w3.cell? ⟨w.heap.size, 0, none⟩ = some (.slice (some ⟨bl, off, none⟩) n cap) := H3.out.2.1.cell rfl
        obtain ⟨r5, w5, e5, hE5, hg5⟩ := erAppend jobOk (ER.nil 57 4 jobL w3 w3.heap.size) (Nat.le_refl _) cap (by rw [HN.out]; exact jobSrc (H.out.1.keep H3.out.1) : SrcAt 4 jobL _ (some ⟨bl, off, none⟩) n r.jc) (by simp; omega) (fun _ => rfl)
        rw [List.nil_append] at hE5
        obtain ⟨A5, k5, hr5⟩ := hE5.form
        rw [List.length_map, List.length_range] at hr5
        subst hr5
        have E5 := Lib.hid e5
        have B5 : Below w.heap.size w w5 := H3.out.1.grown hg5 H3.out.1.size fun q hq => by simp [Value.ownBlock] at hq
        have R5 : Bk w5 (w.heap.size + 1) 50 #[.slice none 0 0] := (hg5.block _ H3.out.2.2.1.lt (by simp [Value.ownBlock])).trans H3.out.2.2.1
        have W5 : FR w5 w.heap.size (.slice Bw mw kw) lw := H3.out.2.2.2.1.keep fun q _ hl => hg5.block q hl (by simp [Value.ownBlock])
        have hform : ∃ g, A5 = some ⟨g, 0, none⟩ ∧ w3.heap.size ≤ g := by
          rcases hE5.2 with ⟨e, h0⟩ | ⟨g', cap', cur, e, h1, _⟩
          · rw [List.length_map, List.length_range] at h0; omega
          · simp only [Value.slice.injEq] at e
            exact ⟨g', e.1, h1⟩
        obtain ⟨g, rfl, hg3⟩ := hform
        rw [HN.out] at hE5
        have K5 : RK w5 g r := ER.rk hE5
        have hw3 := H3.out.2.2.1.lt
        have hwg : ∀ q, (Value.slice Bw mw kw).ownBlock = some q → q ≠ g := fun q hq => by have := (H3.out.2.2.2.1.lt q hq).2; omega
        have H5 := Lib.hid (show _ ∧ _ ∧ _ ∧ _ ∧ _ ∧ _ from ⟨B5, R5, W5, K5, hwg, hg3⟩)
        have h1g : w.heap.size + 1 < g := by omega
        clear e5 hg5 B5 R5 W5 K5 hwg hE5 hg3 hw3
        go_upto_region 9 with (at_builtin; refine wpList_append_eq E5.out _ _ rfl rfl rfl rfl rfl ?_)
        clear cb E5
        go_upto_region 9 with fail
        go_cut [13] (fun s13 wx => ∃ X, s13 = .pointer (some ⟨X, 0, none⟩) ∧ g < X ∧ Hid (Bk wx X 50 #[.slice (some ⟨g, 0, none⟩) n k5] ∧ RK wx g r ∧ Bk wx (w.heap.size + 1) 50 #[.slice none 0 0] ∧ FR wx w.heap.size (.slice Bw mw kw) lw ∧ Below w.heap.size w wx))
        case first =>
          go_wp2_with fail
          go_meet
          exact ⟨w5.heap.size, rfl, H5.out.2.2.2.1.lt, Lib.hid ⟨Bk.new w5 _ _, H5.out.2.2.2.1.keep (Below.heap_alloc w5 _ g H5.out.2.2.2.1.lt), H5.out.2.1.alloc _, H5.out.2.2.1.keep (fun q _ hl => Below.heap_alloc w5 _ q hl), H5.out.1.alloc H5.out.1.size _⟩⟩
        case rest =>
          obtain ⟨X, rfl, hgX, HC⟩ := hcut
          have cx : wc.cell? ⟨X, 0, none⟩ = some (.slice (some ⟨g, 0, none⟩) n k5) := HC.out.1.cell rfl
          have s2 := (HC.out.2.1.at_ hi).c2
          have s3 := (HC.out.2.1.at_ hi).c3
          have t2 := HC.out.2.1.free (i * 4 + 2)
          have t3 := HC.out.2.1.free (i * 4 + 3)
          have hM0 : Hid (FinM w ((wc.setCell ⟨g, i * 4 + 2, none⟩ (.bool true)).setCell ⟨g, i * 4 + 3, none⟩ (.bool well)) r i well g X n k5 wc.heap.size (.slice Bw mw kw) lw (upd r.ov i true) (.slice none 0 0) []) := Lib.hid (by
            have hXl := HC.out.1.lt
            refine ⟨(HC.out.2.1.setOv hi true).setWl hi well, (HC.out.1.far (by dsimp only; omega) _).far (by dsimp only; omega) _, (HC.out.2.2.1.far (by dsimp only; omega) _).far (by dsimp only; omega) _, Or.inl ⟨rfl, rfl⟩, (HC.out.2.2.2.1.keep fun q hq _ => Below.heap_setCell wc _ _ q ?_).keep fun q hq _ => Below.heap_setCell _ _ _ q ?_, H5.out.2.2.2.2.1, ⟨h1g, hgX, hXl, by simp⟩, (HC.out.2.2.2.2.setCell (by dsimp only; omega) _).setCell (by dsimp only; omega) _⟩
            · exact H5.out.2.2.2.2.1 q hq
            · exact H5.out.2.2.2.2.1 q hq)
          obtain ⟨b3, hb3⟩ : ∃ b, Hid (wc.heap.size = b) := ⟨_, Lib.hid rfl⟩
          rw [hb3.out] at hM0
          go_wp2_with fail
          go_loopg [14, 15] (2 * openN r.N (upd r.ov i true) + 1) (fun gm s14 s15 wr => ∃ (mo : Bool) (B : Option Addr) (m c : Nat), s14 = .slice B m c ∧ s15 = .bool mo ∧ ∃ O l, gm = 2 * openN r.N O + mo.toNat ∧ Hid (FinM w wr r i well g X n k5 b3 (.slice Bw mw kw) lw O (.slice B m c) l ∧ SoundO r i well O ∧ DoomL r i O l ∧ (mo = false → ∀ k, k < r.N → O k = false → ¬ BadR (r.fin i well O) (r.n k) (r.e k))))
          case atStart => exact ⟨true, none, 0, 0, rfl, rfl, _, [], rfl, Lib.hid ⟨hM0.out, SoundO.start r i well, DoomL.start r i, fun h => (by cases h)⟩⟩
          case round =>
            clear hM0 cx s2 s3 t2 t3
            obtain ⟨mo, B, m, c, rfl, rfl, O, l, hgm, HI⟩ := hrel
            cases mo with
            | true =>
              have cx : wr.cell? ⟨X, 0, none⟩ = some (.slice (some ⟨g, 0, none⟩) n k5) := HI.out.1.x.cell rfl
              go_wp2_with fail
              rename World => wo
              go_loopg [14, 15, 16] n (fun gm s14 s15 s16 wr => ∃ (k : Nat) (mo : Bool) (B : Option Addr) (m c : Nat), k ≤ n ∧ gm = n - k ∧ s16 = .int .i64 k ∧ s14 = .slice B m c ∧ s15 = .bool mo ∧ ∃ O' l, Hid (FinM w wr r i well g X n k5 b3 (.slice Bw mw kw) lw O' (.slice B m c) l ∧ SoundO r i well O' ∧ DoomL r i O' l ∧ openN r.N O' ≤ openN r.N O ∧ ((mo = true ∧ openN r.N O' < openN r.N O) ∨ (mo = false ∧ ∀ q, q < k → O' q = false → ¬ BadR (r.fin i well O') (r.n q) (r.e q)))))
              case atStart => exact ⟨0, false, B, m, c, by omega, by omega, rfl, rfl, rfl, O, l, Lib.hid ⟨HI.out.1, HI.out.2.1, HI.out.2.2.1, Nat.le_refl _, Or.inr ⟨rfl, fun q hq => absurd hq (by omega)⟩⟩⟩
              case round =>
                clear HI cx
                obtain ⟨k, mo, B, m, c, hk, hgm2, rfl, rfl, rfl, O', l, HI⟩ := hrel
                have cx : wr.cell? ⟨X, 0, none⟩ = some (.slice (some ⟨g, 0, none⟩) n k5) := HI.out.1.x.cell rfl
                have k0 : (0 : Int) ≤ (k : Int) := by omega
                by_cases hlt : k < n
                · have hlt' : (k : Int) < (n : Int) := by omega
                  have hlt2 : k < r.N := by have := HN.out; omega
                  have hat := HI.out.1.rk.at_ hlt2
                  have j0c : wr.cell? ⟨g, k * 4, none⟩ = some (.int .i64 (r.id k : Int)) := hat.c0
                  have j1c : wr.cell? ⟨g, k * 4 + 1, none⟩ = some (.slice (r.A k) (r.n k) (r.c k)) := hat.c1
                  have j2c : wr.cell? ⟨g, k * 4 + 2, none⟩ = some (.bool (O' k)) := hat.c2
                  have j3c : wr.cell? ⟨g, k * 4 + 3, none⟩ = some (.bool (upd r.wl i well k)) := hat.c3
                  clear hat
                  obtain ⟨y, hy⟩ : ∃ b, Hid (r.id k = b) := ⟨_, Lib.hid rfl⟩
                  obtain ⟨Ak, hAk⟩ : ∃ b, Hid (r.A k = b) := ⟨_, Lib.hid rfl⟩
                  obtain ⟨nk, hnk⟩ : ∃ b, Hid (r.n k = b) := ⟨_, Lib.hid rfl⟩
                  obtain ⟨ck, hck⟩ : ∃ b, Hid (r.c k = b) := ⟨_, Lib.hid rfl⟩
                  obtain ⟨ok, hok⟩ : ∃ b, Hid (O' k = b) := ⟨_, Lib.hid rfl⟩
                  obtain ⟨wk, hwk⟩ : ∃ b, Hid (upd r.wl i well k = b) := ⟨_, Lib.hid rfl⟩
                  have hn20 : r.n k ≤ 20 := H.out.2.2.n20 k hlt2
                  have CB := Lib.hid (rbad_any (w := wr.drew) (A := some ⟨g, 0, none⟩) (r := r.fin i well O') (HI.out.1.rk.jobs.keep ((Below.refl _ wr).drew)) (H.out.2.2.fin i well O') hN n k5 HN.out (r.id k : Int) (r.A k) (r.n k) (r.c k) (r.e k) ok wk ((H.out.2.1 k hlt2).keepR HI.out.1.bel.drew) hn20 (H.out.2.2.af k hlt2))
                  rw [hy.out] at j0c
                  rw [hAk.out, hnk.out, hck.out] at j1c
                  rw [hok.out] at j2c
                  rw [hwk.out] at j3c
                  rw [hy.out, hAk.out, hnk.out, hck.out] at CB
                  clear hn20
                  cases ok with
                  | true =>
                    go_upto_region 19 with fail
                    go_region_held3 (fun w' => w'.cell? ⟨X, 0, none⟩ = some (.slice (some ⟨g, 0, none⟩) n k5) ∧ w'.cell? ⟨g, k * 4, none⟩ = some (.int .i64 (y : Int)) ∧ w'.cell? ⟨g, k * 4 + 1, none⟩ = some (.slice Ak nk ck) ∧ w'.cell? ⟨g, k * 4 + 2, none⟩ = some (.bool true) ∧ w'.cell? ⟨g, k * 4 + 3, none⟩ = some (.bool wk)) (first | (refine ⟨?_, ?_, ?_, ?_, ?_⟩ <;> assumption) | assumption | exact keepB5 (by assumption) (by assumption)) (first | (go_at_call 36; refine CB.out.mono ?_; rintro e w2 ⟨⟨b, rfl, hb⟩, hb2⟩))
                    all_goals
                      have HI2 := Lib.hid (HI.out.1.pass (((Below.refl _ wr).drew).trans hb2))
                      have cx2 : w2.cell? ⟨X, 0, none⟩ = some (.slice (some ⟨g, 0, none⟩) n k5) := HI2.out.x.cell rfl
                      have o2 : w2.cell? ⟨g, k * 4 + 2, none⟩ = some (.bool (O' k)) := (HI2.out.rk.at_ hlt2).c2
                      rw [hok.out] at o2
                      clear hb hb2
                      go_wp2_with fail
                      go_roundg (n - (k + 1))
                      case measure => omega
                      case rel =>
                        refine ⟨k + 1, mo, B, m, c, by omega, rfl, by go_num, rfl, rfl, O', l, Lib.hid ⟨HI2.out, HI.out.2.1, HI.out.2.2.1, HI.out.2.2.2.1, HI.out.2.2.2.2.imp id fun ⟨h1, h2⟩ => ⟨h1, fun q hq ho => ?_⟩⟩⟩
                        by_cases c : q = k
                        · rw [c, hok.out] at ho; cases ho
                        · exact h2 q (by omega) ho
                  | false =>
                    go_upto_region 19 with fail
                    go_region_held3 (fun w' => w'.cell? ⟨X, 0, none⟩ = some (.slice (some ⟨g, 0, none⟩) n k5) ∧ w'.cell? ⟨g, k * 4, none⟩ = some (.int .i64 (y : Int)) ∧ w'.cell? ⟨g, k * 4 + 1, none⟩ = some (.slice Ak nk ck) ∧ w'.cell? ⟨g, k * 4 + 2, none⟩ = some (.bool false) ∧ w'.cell? ⟨g, k * 4 + 3, none⟩ = some (.bool wk)) (first | (refine ⟨?_, ?_, ?_, ?_, ?_⟩ <;> assumption) | assumption | exact keepB5 (by assumption) (by assumption)) (first | (go_at_call 36; refine CB.out.mono ?_; rintro e w2 ⟨⟨b, rfl, hb⟩, hb2⟩))
                    all_goals
                      have HI2 := Lib.hid (HI.out.1.pass (((Below.refl _ wr).drew).trans hb2))
                      have HBd := Lib.hid hb
                      have cx2 : w2.cell? ⟨X, 0, none⟩ = some (.slice (some ⟨g, 0, none⟩) n k5) := HI2.out.x.cell rfl
                      have o2 : w2.cell? ⟨g, k * 4 + 2, none⟩ = some (.bool (O' k)) := (HI2.out.rk.at_ hlt2).c2
                      rw [hok.out] at o2
                      clear hb hb2
                      cases b with
                      | false =>
                        go_wp2_with fail
                        go_roundg (n - (k + 1))
                        case measure => omega
                        case rel =>
                          refine ⟨k + 1, mo, B, m, c, by omega, rfl, by go_num, rfl, rfl, O', l, Lib.hid ⟨HI2.out, HI.out.2.1, HI.out.2.2.1, HI.out.2.2.2.1, HI.out.2.2.2.2.imp id fun ⟨h1, h2⟩ => ⟨h1, fun q hq ho => ?_⟩⟩⟩
                          by_cases c : q = k
                          · rw [c, hnk.out]
                            intro hbad
                            have := HBd.out.2 hbad
                            cases this
                          · exact h2 q (by omega) ho
                      | true =>
                        have hbad : BadR (r.fin i well O') (r.n k) (r.e k) := by rw [hnk.out]; exact HBd.out.1 rfl
                        have HT := Lib.hid (HI2.out.turn hlt2)
                        have HO := Lib.hid (show _ ∧ _ from ⟨HI.out.2.1.turn hlt2 hbad, openN_set (N := r.N) hlt2 hok.out⟩)
                        have e0 : (w2.setCell ⟨g, k * 4 + 2, none⟩ (.bool true)).cell? ⟨g, k * 4, none⟩ = some (.int .i64 (r.id k : Int)) := (HT.out.rk.at_ hlt2).c0
                        rw [hy.out] at e0
                        have cx3 : (w2.setCell ⟨g, k * 4 + 2, none⟩ (.bool true)).cell? ⟨X, 0, none⟩ = some (.slice (some ⟨g, 0, none⟩) n k5) := HT.out.x.cell rfl
                        have t2 := HI2.out.rk.free (k * 4 + 2)
                        have hml : m ≤ 900000 := by have := HT.out.row.len; have := HI.out.2.2.1.len; omega
                        have d2 : w2.cell? ⟨g, k * 4, none⟩ = some (.int .i64 (r.id k : Int)) := (HI2.out.rk.at_ hlt2).c0
                        rw [hy.out] at d2
                        clear hbad
                        go_wp2_with fail
                        refine (put_any HT.out.row HT.out.lo.2.2.2 hml HI.out.2.2.1.rise y).mono ?_
                        rintro e w4 ⟨B4, m4, c4, l4, rfl, hF4, hp4, hm4, hb4, _⟩
                        have hnext : Hid (FinM w w4 r i well g X n k5 b3 (.slice Bw mw kw) lw (upd O' k true) (.slice B4 m4 c4) l4 ∧ DoomL r i (upd O' k true) l4) := Lib.hid ⟨(HT.out.pass hb4).newRow hF4, HI.out.2.2.1.turn HI.out.2.1 hlt2 hok.out hp4 (by rw [hy.out]; exact hm4)⟩
                        clear hF4 hp4 hm4 hb4 e0 cx3 t2 d2 cx2 o2
                        go_wp2_with fail
                        go_roundg (n - (k + 1))
                        case measure => omega
                        case rel => exact ⟨k + 1, true, B4, m4, c4, by omega, rfl, by go_num, rfl, rfl, _, l4, Lib.hid ⟨hnext.out.1, HO.out.1, hnext.out.2, by have := HO.out.2; have := HI.out.2.2.2.1; omega, Or.inl ⟨rfl, by have := HO.out.2; have := HI.out.2.2.2.1; omega⟩⟩⟩
                · obtain rfl : n = k := by omega
                  go_wp2_with fail
                  go_roundg (2 * openN r.N O' + mo.toNat)
                  case measure =>
                    have h1 : true.toNat = 1 := rfl
                    have h2 : false.toNat = 0 := rfl
                    have h3 := HI.out.2.2.2.1
                    rcases HI.out.2.2.2.2 with ⟨rfl, h⟩ | ⟨rfl, _⟩ <;> omega
                  case rel =>
                    refine ⟨mo, B, m, c, rfl, rfl, O', l, rfl, Lib.hid ⟨HI.out.1, HI.out.2.1, HI.out.2.2.1, fun h q hq => ?_⟩⟩
                    rcases HI.out.2.2.2.2 with ⟨h1, _⟩ | ⟨_, h1⟩
                    · rw [h1] at h; cases h
                    · exact h1 q (by have := HN.out; omega)
            | false =>
              have cx : wr.cell? ⟨X, 0, none⟩ = some (.slice (some ⟨g, 0, none⟩) n k5) := HI.out.1.x.cell rfl
              have CR := Lib.hid (rready_any (w := wr) (A := some ⟨g, 0, none⟩) (r := r.fin i well O) HI.out.1.rk.jobs (H.out.2.1.keep HI.out.1.bel) (H.out.2.2.fin i well O) hN n k5 HN.out)
              go_wp2_with fail
              refine CR.out.mono ?_
              rintro e w7 ⟨Bn, mn, kn, ln, rfl, hFn, hpn, hmn, hln, hb7⟩
              have HM7 := Lib.hid (HI.out.1.pass hb7)
              have HNo := Lib.hid (show _ ∧ _ ∧ _ from ⟨hFn.mono HI.out.1.bel.size, hpn, hmn⟩)
              obtain ⟨b4, hb4⟩ : ∃ b, Hid (w7.heap.size = b) := ⟨_, Lib.hid rfl⟩
              have HV := Lib.hid (show (∀ q, (Value.slice B m c).ownBlock = some q → q < b4) ∧ (∀ q, (Value.slice Bw mw kw).ownBlock = some q → q < b4) ∧ (∀ q, (Value.slice Bn mn kn).ownBlock = some q → q < b4) ∧ X < b4 ∧ w.heap.size ≤ b4 from by
                rw [← hb4.out]
                exact ⟨fun q hq => (HM7.out.row.lt q hq).2, fun q hq => (HM7.out.was.lt q hq).2, fun q hq => (hFn.lt q hq).2, HM7.out.x.lt, HM7.out.bel.size⟩)
              have hmn1 : mn ≤ 1000 := by have := hFn.len; have h2 : ln.length ≤ r.N := hln; omega
              have hmnl := Lib.hid hFn.len
              have hlwl := Lib.hid (show mw = lw.length from H5.out.2.2.1.len)
              have hlw : lw.length ≤ 1000 := by have := H3.out.2.2.2.2.2; omega
              clear hFn hpn hmn hln hb7 CR cx
              go_wp2_with fail
              go_loopg [18, 20] mn (fun gm s18 s20 wr => ∃ (p : Nat) (B2 : Option Addr) (m2 c2 : Nat), p ≤ mn ∧ gm = mn - p ∧ s20 = .int .i64 p ∧ s18 = .slice B2 m2 c2 ∧ Hid (FR wr b4 (.slice B2 m2 c2) (newOf lw (ln.take p)) ∧ FinM w wr r i well g X n k5 b3 (.slice Bw mw kw) lw O (.slice B m c) l ∧ FR wr w.heap.size (.slice Bn mn kn) ln ∧ b4 ≤ wr.heap.size))
              case atStart => exact ⟨0, none, 0, 0, by omega, by omega, rfl, rfl, Lib.hid ⟨Or.inl ⟨rfl, rfl⟩, HM7.out, HNo.out.1, by rw [hb4.out]; exact Nat.le_refl _⟩⟩
              case round =>
                obtain ⟨p, B2, m2, c2, hp, hgm2, rfl, rfl, HP⟩ := hrel
                have p0 : (0 : Int) ≤ (p : Int) := by omega
                have cx : wr.cell? ⟨X, 0, none⟩ = some (.slice (some ⟨g, 0, none⟩) n k5) := HP.out.2.1.x.cell rfl
                by_cases hlt : p < mn
                · have hlt' : (p : Int) < (mn : Int) := by omega
                  obtain ⟨y, hy⟩ : ∃ y, ln[p]? = some y := ⟨_, List.getElem?_eq_getElem (by rw [← hmnl.out]; exact hlt)⟩
                  obtain ⟨gn, on, rfl, cn⟩ := HP.out.2.2.1.cellAt hy
                  have HY := Lib.hid hy
                  clear hy
                  have hm2 : m2 ≤ 1000000 := by
                    have h1 := HP.out.1.len
                    have h2 := newOf_len lw (ln.take p)
                    rw [List.length_take] at h2
                    omega
                  by_cases hmem : y ∈ lw
                  · have CI := Lib.hid (in_any Bw mw kw (fun j => ((lw.getD j 0 : Nat) : Int)) (y : Int) true ⟨fun _ => by
                      obtain ⟨j, hj, e⟩ := List.getElem_of_mem hmem
                      refine ⟨j, by rw [hlwl.out]; exact hj, ?_⟩
                      show ((lw.getD j 0 : Nat) : Int) = (y : Int)
                      rw [List.getD_eq_getElem?_getD, List.getElem?_eq_getElem hj, Option.getD_some, e], fun _ => rfl⟩ (by have := hlwl.out; omega) wr HP.out.2.1.was.nums)
                    go_wp2_with fail
                    refine CI.out.mono ?_
                    rintro e w8 ⟨rfl, rfl⟩
                    go_wp2_with fail
                    go_roundg (mn - (p + 1))
                    case measure => omega
                    case rel =>
                      refine ⟨p + 1, B2, m2, c2, by omega, rfl, by go_num, rfl, Lib.hid ⟨?_, HP.out.2⟩⟩
                      rw [newOf_next HY.out, if_pos hmem]
                      exact HP.out.1
                  · have CI := Lib.hid (in_any Bw mw kw (fun j => ((lw.getD j 0 : Nat) : Int)) (y : Int) false ⟨fun h => (by cases h), fun ⟨j, hj, e⟩ => by
                      exfalso
                      rw [hlwl.out] at hj
                      have e' : ((lw.getD j 0 : Nat) : Int) = (y : Int) := e
                      rw [List.getD_eq_getElem?_getD, List.getElem?_eq_getElem hj, Option.getD_some] at e'
                      refine hmem ?_
                      rw [← Int.ofNat_inj.1 e']
                      exact List.getElem_mem hj⟩ (by have := hlwl.out; omega) wr HP.out.2.1.was.nums)
                    go_wp2_with fail
                    refine CI.out.mono ?_
                    rintro e w8 ⟨rfl, rfl⟩
                    go_upto_region 28 with (at_builtin; refine wpList_frpush HP.out.1 (k := y) hm2 HP.out.2.2.2 rfl _ _ rfl rfl rfl rfl ?_)
                    intro A8 c8 W' hg8 hF8 hr8
                    have hro : ∀ q, (Value.slice B2 m2 c2).ownBlock = some q → b4 ≤ q := fun q hq => (HP.out.1.lt q hq).1
                    have hnext : Hid (FR W' b4 (.slice A8 (m2 + 1) c8) (newOf lw (ln.take (p + 1))) ∧ FinM w W' r i well g X n k5 b3 (.slice Bw mw kw) lw O (.slice B m c) l ∧ FR W' w.heap.size (.slice (some ⟨gn, on, none⟩) mn kn) ln ∧ b4 ≤ W'.heap.size) := Lib.hid (by
                      refine ⟨?_, HP.out.2.1.grown hg8 hro HV.out.2.2.2.1 HV.out.1 HV.out.2.1, HP.out.2.2.1.keep fun q hq hl => hg8.block q hl fun c => ?_, Nat.le_trans HP.out.2.2.2 hg8.size⟩
                      · rw [newOf_next HY.out, if_neg hmem]; exact hF8
                      · have h1 := hro q c.symm
                        have h2 := HV.out.2.2.1 q hq
                        omega)
                    clear hg8 hF8 hr8 hro
                    go_wp2_with fail
                    go_roundg (mn - (p + 1))
                    case measure => omega
                    case rel => exact ⟨p + 1, A8, m2 + 1, c8, by omega, rfl, by go_num, rfl, hnext⟩
                · obtain rfl : mn = p := by omega
                  have z9 : wr.cell? ⟨w.heap.size + 1, 0, none⟩ = some (.slice none 0 0) := HP.out.2.1.res.cell rfl
                  have f9 := HP.out.2.1.res.free 0
                  have hlo := HP.out.2.1.lo
                  go_wp2_with fail
                  have htk : ln.take mn = ln := by rw [hmnl.out]; exact List.take_length
                  refine bodyPost_ret (v := .tuple #[.agg #[.slice (some ⟨g, 0, none⟩) n k5], .slice B2 m2 c2, .slice B m c, .int .i64 0]) (by simp [results, Try.results25, go_sem, z9]) rfl ⟨HP.out.2.1.bel.setCell (by dsimp only; omega) _, Or.inr (Or.inr ⟨i, hi, HX.out, hov.out, hnw.out, g, k5, O, B2, m2, c2, newOf lw ln, B, m, c, l, rfl, by omega, ?_, HI.out.2.1, HI.out.2.2.2 (by trivial), ?_, newOf_rise HNo.out.2.1, fun y => ?_, ?_, HI.out.2.2.1⟩)⟩
                  · exact (HP.out.2.1.rk.keep (Below.heap_setCell wr _ _ g (by dsimp only; omega))).jobs
                  · have h1 := HP.out.1
                    rw [htk] at h1
                    have hV := HV.out.2.2.2.1
                    exact (h1.keep fun q hq _ => Below.heap_setCell wr _ _ q (by have := (h1.lt q hq).1; dsimp only; omega)).mono HV.out.2.2.2.2
                  · rw [newOf_mem, HNo.out.2.2, H3.out.2.2.2.2.1]
                  · exact (HP.out.2.1.row.keep fun q hq _ => Below.heap_setCell wr _ _ q (by have := (HP.out.2.1.row.lt q hq).1; dsimp only; omega)).mono (by omega)
end Go.Proofs.Ytecimlbdcldkdaa
