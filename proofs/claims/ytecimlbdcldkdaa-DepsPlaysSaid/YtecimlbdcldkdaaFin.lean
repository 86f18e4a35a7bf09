/- Walk of Finish. -/
import Derived.Test.YtecimlbdcldkdaaDoom
namespace Go.Proofs.Ytecimlbdcldkdaa
open Go.RowKit Go.Maps Dep

theorem Eff.more {w w1 w2 : World} {F F2 : Nat → Prop} (h : Eff w w1 F) (h' : Eff w1 w2 F2) (hF : ∀ b, b < w.heap.size → F2 b → F b) : Eff w w2 F :=
  ⟨h'.os.trans h.os, h'.tape.trans h.tape, h'.output.trans h.output, Nat.le_trans h.size h'.size, fun b hb hn => (h'.block b (Nat.lt_of_lt_of_le hb h.size) fun c => hn (hF b hb c)).trans (h.block b hb hn)⟩

theorem Dm.setWl {W : World} {base : Nat} {d : GD} {s : GS} {gb db fb b2 : Nat} {v : Value} {l : List Nat} (h : Dm W base d s gb db fb b2 v l) {i : Nat} (hi : i < s.N) (x : Bool) : Dm (W.setCell ⟨d.J i, 3, none⟩ (.bool x)) base d { s with wl := upd s.wl i x } gb db fb b2 v l := by
  have hf := h.foot (d.J i) (Or.inr (Or.inr ⟨i, hi, Or.inl rfl⟩))
  exact ⟨h.gm.setWl hi x, h.g.far (Ne.symm hf.1) _, h.dd.far (Ne.symm hf.2.1) _, h.f.far (Ne.symm hf.2.2.1) _, h.row.keep fun g hg _ => Below.heap_setCell W _ _ _ (by have := (h.row.lt g hg).1; dsimp only; omega), h.foot, h.apart⟩
theorem openN_le (N : Nat) (ov : Nat → Bool) : openN N ov ≤ N := by
  unfold openN
  refine Nat.le_trans (List.length_filter_le _ _) ?_
  simp
theorem Gm.congrWs {w : World} {base : Nat} {d : GD} {s : GS} (h : Gm w base d s) {ws' : Nat → List Nat} (e : ∀ k, k < s.N → ws' k = s.ws k) : Gm w base d { s with ws := ws' } :=
  ⟨h.g, h.m, h.j, fun k hk => (by show MapV w (d.B k) (ws' k) _; rw [e k hk]; exact h.b k hk), h.f, h.nj, h.nb, h.nm, h.lo⟩
theorem Dm.congrWs {W : World} {base : Nat} {d : GD} {s : GS} {gb db fb b2 : Nat} {v : Value} {l : List Nat} (h : Dm W base d s gb db fb b2 v l) {ws' : Nat → List Nat} (e : ∀ k, k < s.N → ws' k = s.ws k) : Dm W base d { s with ws := ws' } gb db fb b2 v l :=
  ⟨h.gm.congrWs e, h.g, h.dd, h.f, h.row, h.foot, h.apart⟩
/-- a block beyond all those of doom has turned -/
theorem Dm.beyond {W W' : World} {base : Nat} {d : GD} {s : GS} {gb db fb b2 : Nat} {v : Value} {l : List Nat} (h : Dm W base d s gb db fb b2 v l) {row : Option Nat} {b3 : Nat} (hg : W.grownBy W' row) (hr : ∀ b, row = some b → b3 ≤ b) (h3 : b2 ≤ b3) (hv : ∀ g, v.ownBlock = some g → g < b3) : Dm W' base d s gb db fb b2 v l := by
  have hb : ∀ b, b < W.heap.size → b < b3 → W'.heap[b]? = W.heap[b]? := fun b hb hlt => hg.block b hb fun c => by have := hr b c.symm; omega
  exact ⟨h.gm.keep fun b hf => hb b (h.gm.foot_lt b hf).2 (by have := (h.foot b hf).2.2.2; omega), (hb _ h.g.lt (by have := h.apart; omega)).trans h.g, (hb _ h.dd.lt (by have := h.apart; omega)).trans h.dd, (hb _ h.f.lt (by have := h.apart; omega)).trans h.f, h.row.keep fun g hg hl => hb g hl (hv g hg), h.foot, h.apart⟩
theorem Dm.turn {W W' : World} {base : Nat} {d : GD} {s : GS} {gb db fb b2 : Nat} {v : Value} {l : List Nat} (h : Dm W base d s gb db fb b2 v l) {i : Nat} (hi : i < s.N) {ks : List Nat} (hg : W.grownBy W' (some (d.B i))) (hm : MapV W' (d.B i) ks (fun _ => .int .i64 1)) : Dm W' base d { s with ws := upd s.ws i ks } gb db fb b2 v l := by
  have hf := h.foot (d.B i) (Or.inr (Or.inr ⟨i, hi, Or.inr (Or.inl rfl)⟩))
  have hb : ∀ b, b < W.heap.size → b ≠ d.B i → W'.heap[b]? = W.heap[b]? := fun b hb hne => hg.block b hb fun c => hne (by simpa using c)
  exact ⟨h.gm.turn hi hg hm, (hb _ h.g.lt (Ne.symm hf.1)).trans h.g, (hb _ h.dd.lt (Ne.symm hf.2.1)).trans h.dd, (hb _ h.f.lt (Ne.symm hf.2.2.1)).trans h.f, h.row.keep fun g hg hl => hb g hl (fun c => by have := (h.row.lt g hg).1; omega), h.foot, h.apart⟩
/-- who is over behind a finish -/
structure FinOv (s : GS) (i : Nat) (well : Bool) (ov' : Nat → Bool) : Prop where
  old : ∀ k, s.ov k = true → ov' k = true
  own : ov' i = true
  good : well = true → ∀ k, k < s.N → ov' k = upd s.ov i true k
  reach : well = false → ∀ k, k < s.N → upd s.ov i true k = false → ov' k = true → Rch s.N s.id s.bl (upd s.ov i true) i k
  first : well = false → ∀ k, k < s.N → s.id k ∈ s.bl i → ov' k = true
  next : well = false → ∀ m k, m < s.N → upd s.ov i true m = false → ov' m = true → k < s.N → s.id k ∈ s.bl m → ov' k = true
/-- the waits behind the first p of those that wait for i -/
def wsP (s : GS) (i p : Nat) (k : Nat) : List Nat := if s.id k ∈ (s.bl i).take p then (s.ws k).filter (fun j => decide (j ≠ s.id i)) else s.ws k
theorem wsP_zero (s : GS) (i : Nat) : wsP s i 0 = s.ws := by funext k; unfold wsP; simp
theorem wsP_in {s : GS} {i p p' k : Nat} (h : s.id k ∈ (s.bl i).take p) (hp : p ≤ p') : wsP s i p' k = wsP s i p k := by
  unfold wsP
  rw [if_pos h, if_pos]
  have e : (s.bl i).take p = ((s.bl i).take p').take p := by rw [List.take_take, Nat.min_eq_left hp]
  rw [e] at h
  exact List.mem_of_mem_take h
theorem wsP_out {s : GS} {i p k : Nat} (h : s.id k ∉ (s.bl i).take p) : wsP s i p k = s.ws k := by
  unfold wsP
  rw [if_neg h]
theorem take_next {l : List Nat} {p x : Nat} (h : l[p]? = some x) : l.take (p + 1) = l.take p ++ [x] := by
  rw [List.take_add_one, h]; rfl
theorem take_not {l : List Nat} (hn : l.Nodup) {p x : Nat} (h : l[p]? = some x) : x ∉ l.take p := by
  obtain ⟨hp, e⟩ := List.getElem?_eq_some_iff.1 h
  intro c
  obtain ⟨q, hq, e2⟩ := List.getElem_of_mem c
  rw [List.getElem_take] at e2
  rw [List.length_take] at hq
  have := (List.getElem_inj hn).1 (e2.trans e.symm)
  omega
def FinSaid (base : Nat) (d : GD) (s : GS) (x : Int) (well : Bool) (w : World) (e : Ending) (w' : World) : Prop :=
  (((¬ ∃ i, i < s.N ∧ (s.id i : Int) = x) ∧ e = .returned (.tuple #[.slice none 0 0, .slice none 0 0, .int .i64 90]) ∧ Below w.heap.size w w')) ∨
  (∃ i, i < s.N ∧ (s.id i : Int) = x ∧ ¬ (s.ov i = false ∧ s.ws i = []) ∧ e = .returned (.tuple #[.slice none 0 0, .slice none 0 0, .int .i64 100]) ∧ Below w.heap.size w w') ∨
  (∃ i, i < s.N ∧ (s.id i : Int) = x ∧ s.ov i = false ∧ s.ws i = [] ∧ ∃ A m c R B n c2 D ov', e = .returned (.tuple #[.slice A m c, .slice B n c2, .int .i64 0]) ∧ FinOv s i well ov' ∧
    Gm w' base d { s with ov := ov', wl := upd s.wl i well, ws := wsP s i (s.bl i).length } ∧
    FR w' w.heap.size (.slice A m c) R ∧ R.Pairwise (· < ·) ∧ (∀ y, y ∈ R ↔ ∃ k, k < s.N ∧ s.id k = y ∧ y ∈ s.bl i ∧ ov' k = false ∧ wsP s i (s.bl i).length k = []) ∧
    FR w' w.heap.size (.slice B n c2) D ∧ D.Pairwise (· < ·) ∧ (∀ y, y ∈ D ↔ ∃ k, k < s.N ∧ s.id k = y ∧ upd s.ov i true k = false ∧ ov' k = true) ∧ Eff w w' (Foot d s))

theorem fin_nil (w : World) (x : Int) (b : Bool) : Calls Try.prog 22 #[.pointer none, .int .i64 x, .bool b] w fun e w' => e = .returned (.tuple #[.slice none 0 0, .slice none 0 0, .int .i64 1]) ∧ Below w.heap.size w w' := by
  go_enter Try.func22, Try.ntmps22
  go_wp2_with fail
  go_ret3
  exact ⟨rfl, (Below.refl w.heap.size w).alloc (Nat.le_refl _) _⟩

set_option maxRecDepth 100000 in
set_option maxHeartbeats 8000000 in
theorem fin_any {w : World} {base : Nat} {d : GD} {s : GS} (h : Gm w base d s) (hN : s.N ≤ 900) (hbl : ∀ i, i < s.N → (s.bl i).length ≤ 1000) (hids : ∀ k, k < s.N → ∀ y ∈ s.bl k, y ∈ s.ids) (hnd : ∀ k, k < s.N → (s.bl k).Nodup) (x : Int) (hx64 : In64 x) (well : Bool) :
    Calls Try.prog 22 #[.pointer (some ⟨d.G, 0, none⟩), .int .i64 x, .bool well] w (FinSaid base d s x well w) := by
  have hA := h.alloc (.cells #[.pointer (some ⟨d.G, 0, none⟩)] 36)
  have hBA := (Below.refl w.heap.size w).alloc (Nat.le_refl _) (.cells #[.pointer (some ⟨d.G, 0, none⟩)] 36)
  obtain ⟨f, hm, hf⟩ := hA.m
  have cG : (w.alloc (.cells #[.pointer (some ⟨d.G, 0, none⟩)] 36)).cell? ⟨d.G, 0, none⟩ = some (.map (some d.M)) := hA.g.cell rfl
  have H := Lib.hid (show _ ∧ _ ∧ _ ∧ _ ∧ _ ∧ _ from ⟨h, hbl, hids, hnd, hA, hBA⟩)
  clear h hbl hids hnd hA hBA
  by_cases hin : ∃ k ∈ s.ids, x = (k : Int)
  case neg =>
    have hlook := hm.lookNot Try.underlying65 (zeroJob _) hx64 (fun k hk e => hin ⟨k, hk, e⟩)
    have HNO := Lib.hid (show ¬ ∃ i, i < s.N ∧ (s.id i : Int) = x from fun ⟨i, hi, e⟩ => hin ⟨s.id i, mem_ids.2 ⟨i, hi, rfl⟩, e.symm⟩)
    clear hm hf hin
    go_enter Try.func22, Try.ntmps22
    go_wp2_with fail
    go_ret3
    exact Or.inl ⟨HNO.out, rfl, H.out.2.2.2.2.2⟩
  obtain ⟨k, hk, rfl⟩ := hin
  have hk64 := hm.key k hk
  have hlook := hm.look Try.underlying65 (zeroJob _) hk
  obtain ⟨i, hi, rfl⟩ := mem_ids.1 hk
  rw [hf i hi] at hlook
  have c0 : (w.alloc (.cells #[.pointer (some ⟨d.G, 0, none⟩)] 36)).cell? ⟨d.J i, 0, none⟩ = some (.map (some (d.B i))) := (H.out.2.2.2.2.1.j i hi).cell rfl
  have c2 : (w.alloc (.cells #[.pointer (some ⟨d.G, 0, none⟩)] 36)).cell? ⟨d.J i, 2, none⟩ = some (.bool (s.ov i)) := (H.out.2.2.2.2.1.j i hi).cell rfl
  have hlen := (H.out.2.2.2.2.1.b i hi).len Try.underlying69 3
  obtain ⟨ovi, hov⟩ : ∃ b, Hid (s.ov i = b) := ⟨_, Lib.hid rfl⟩
  obtain ⟨qi, hqi⟩ : ∃ q, Hid ((s.ws i).length = q) := ⟨_, Lib.hid rfl⟩
  obtain ⟨x, hx⟩ : ∃ x, Hid (s.id i = x) := ⟨_, Lib.hid rfl⟩
  rw [hov.out] at c2
  rw [hqi.out] at hlen
  rw [hx.out] at hlook hk64 ⊢
  clear hm hf hk hx64
  cases ovi with
  | true =>
    go_enter Try.func22, Try.ntmps22
    go_wp2_with fail
    go_ret3
    exact Or.inr (Or.inl ⟨i, hi, by rw [hx.out], fun h => (by rw [hov.out] at h; cases h.1), rfl, H.out.2.2.2.2.2⟩)
  | false =>
    by_cases hq0 : 0 < qi
    · have hq1 : (0 : Int) < (qi : Int) := by omega
      go_enter Try.func22, Try.ntmps22
      go_wp2_with fail
      go_ret3
      exact Or.inr (Or.inl ⟨i, hi, by rw [hx.out], fun h => (by have := hqi.out; rw [h.2] at this; simp at this; omega), rfl, H.out.2.2.2.2.2⟩)
    · obtain rfl : qi = 0 := by omega
      have hws := Lib.hid (List.eq_nil_of_length_eq_zero hqi.out)
      have hD : Dm (((w.alloc (.cells #[.pointer (some ⟨d.G, 0, none⟩)] 36)).alloc (.cells #[.slice none 0 0] 25)).alloc (.cells #[doomFn w.heap.size (w.heap.size + 1) (w.heap.size + 1 + 1)] 72)) base d s w.heap.size (w.heap.size + 1) (w.heap.size + 1 + 1) (w.heap.size + 3) (.slice none 0 0) [] :=
        ⟨(H.out.2.2.2.2.1.alloc _).alloc _, blk1 w _ _ _ _, blk2 w _ _ _ _, blk3 w _ _ _ _, Or.inl ⟨rfl, rfl⟩, fun b hb => by have := (H.out.1.foot_lt b hb).2; omega, by omega⟩
      have hE : Eff w (((w.alloc (.cells #[.pointer (some ⟨d.G, 0, none⟩)] 36)).alloc (.cells #[.slice none 0 0] 25)).alloc (.cells #[doomFn w.heap.size (w.heap.size + 1) (w.heap.size + 1 + 1)] 72)) (Foot d s) := (((Eff.refl w _).alloc _).alloc _).alloc _
      have hsz : w.heap.size + 3 ≤ (((w.alloc (.cells #[.pointer (some ⟨d.G, 0, none⟩)] 36)).alloc (.cells #[.slice none 0 0] 25)).alloc (.cells #[doomFn w.heap.size (w.heap.size + 1) (w.heap.size + 1 + 1)] 72)).heap.size := by simp
      have HD := Lib.hid (show _ ∧ _ ∧ _ from ⟨hD, hE, hsz⟩)
      clear hD hE hsz
      go_enter Try.func22, Try.ntmps22
      go_upto_region 10 with fail
      go_cut [] (fun wx => Hid (Dm wx base d s w.heap.size (w.heap.size + 1) (w.heap.size + 1 + 1) (w.heap.size + 3) (.slice none 0 0) [] ∧ Eff w wx (Foot d s) ∧ w.heap.size + 3 ≤ wx.heap.size))
      case first =>
        go_wp2_with fail
        go_meet
        exact HD
      case rest =>
        clear HD cG hlook c0 c2 hlen
        have c2 : wc.cell? ⟨d.J i, 2, none⟩ = some (.bool (s.ov i)) := (hcut.out.1.gm.j i hi).cell rfl
        have c3 : wc.cell? ⟨d.J i, 3, none⟩ = some (.bool (s.wl i)) := (hcut.out.1.gm.j i hi).cell rfl
        have f2 := (hcut.out.1.gm.j i hi).free 2
        have f3 := (hcut.out.1.gm.j i hi).free 3
        go_upto_region 11 with fail
        have hD2 := (hcut.out.1.setOv hi true).setWl (i := i) hi well
        have hE2 := (hcut.out.2.1.setCell ⟨d.J i, 2, none⟩ (.bool true) (Or.inl (Or.inr (Or.inr ⟨i, hi, Or.inl rfl⟩)))).setCell ⟨d.J i, 3, none⟩ (.bool well) (Or.inl (Or.inr (Or.inr ⟨i, hi, Or.inl rfl⟩)))
        have cf2 : ((wc.setCell ⟨d.J i, 2, none⟩ (.bool true)).setCell ⟨d.J i, 3, none⟩ (.bool well)).cell? ⟨w.heap.size + 1 + 1, 0, none⟩ = some (doomFn w.heap.size (w.heap.size + 1) (w.heap.size + 1 + 1)) := hD2.f.cell rfl
        have hsz2 : w.heap.size + 3 ≤ ((wc.setCell ⟨d.J i, 2, none⟩ (.bool true)).setCell ⟨d.J i, 3, none⟩ (.bool well)).heap.size := by have := hcut.out.2.2; simpa using this
        unfold doomFn at cf2
        have HD2 := Lib.hid (show _ ∧ _ ∧ _ from ⟨hD2, hE2, hsz2⟩)
        clear hD2 hE2 hsz2
        go_upto_if 47 with fail
        rename World => w2
        go_cut [] (fun wx => ∃ ov' v' l', Hid (Dm wx base d { s with ov := ov', wl := upd s.wl i well } w.heap.size (w.heap.size + 1) (w.heap.size + 1 + 1) (w.heap.size + 3) v' l' ∧ FinOv s i well ov' ∧ l'.Nodup ∧ (∀ y, y ∈ l' ↔ ∃ k, k < s.N ∧ s.id k = y ∧ upd s.ov i true k = false ∧ ov' k = true) ∧ Eff w wx (Foot d s) ∧ w.heap.size + 3 ≤ wx.heap.size ∧ l'.length ≤ 1000))
        case first =>
          have hupd : ∀ k, s.ov k = true → upd s.ov i true k = true := fun k hk => by
            by_cases c : k = i
            · rw [c, upd_same]
            · rw [upd_other _ _ c]; exact hk
          cases well with
          | true =>
            go_wp2_with fail
            go_meet
            refine ⟨upd s.ov i true, .slice none 0 0, [], Lib.hid ⟨HD2.out.1, ⟨hupd, upd_same _ _ _, fun _ k _ => rfl, fun h => (by cases h), fun h => (by cases h), fun h => (by cases h)⟩, List.nodup_nil, fun y => ⟨fun h => (by cases h), fun ⟨k, _, _, h1, h2⟩ => (by rw [h1] at h2; cases h2)⟩, HD2.out.2.1, HD2.out.2.2, by simp⟩⟩
          | false =>
            have hon := openN_le s.N (upd s.ov i true)
            have C := Lib.hid (doom_any (openN s.N (upd s.ov i true)) { s with ov := upd s.ov i true, wl := upd s.wl i false } _ (.slice none 0 0) [] i rfl (by show s.N ≤ 1000; omega) H.out.2.1 H.out.2.2.1 (by simp; omega) hi HD2.out.1 HD2.out.2.2)
            have HU := Lib.hid hupd
            clear hupd
            go_wp2_with fail
            refine C.out.mono ?_
            rintro x7 w7 ⟨rfl, ov7, v7, l7, d7, a7, r7, b7, c7, n7, m7, e7, k7⟩
            have H7 := Lib.hid (show _ ∧ _ ∧ _ ∧ _ ∧ _ ∧ _ ∧ _ ∧ _ ∧ _ from ⟨d7, a7, r7, b7, c7, n7, m7, e7, k7⟩)
            clear d7 a7 r7 b7 c7 n7 m7 e7 k7 C
            go_wp2_with fail
            go_meet
            refine ⟨ov7, v7, l7, Lib.hid ⟨by have := H7.out.1; simpa using this, ⟨fun k hk => H7.out.2.1 k (HU.out k hk), H7.out.2.1 i (upd_same _ _ _), fun h => (by cases h), fun _ => H7.out.2.2.1, fun _ => H7.out.2.2.2.1, fun _ => H7.out.2.2.2.2.1⟩, H7.out.2.2.2.2.2.1, H7.out.2.2.2.2.2.2.1, HD2.out.2.1.more H7.out.2.2.2.2.2.2.2.1 fun b hb hF => ?_, Nat.le_trans HD2.out.2.2 H7.out.2.2.2.2.2.2.2.1.size, ?_⟩⟩
            · rcases hF with c | c | c
              · exact c
              · omega
              · omega
            · have h1 : l7.length + openN s.N ov7 ≤ openN s.N (upd s.ov i true) := H7.out.2.2.2.2.2.2.2.2
              omega
        case rest =>
          clear cf2 c2 c3 f2 f3 HD2
          obtain ⟨ov', v', l', HC⟩ := hcut
          obtain ⟨Ai, ci, hrow⟩ := (HC.out.1.gm.f.1 i hi).form
          have hbi := H.out.2.1 i hi
          change d.bk i = .slice Ai (s.bl i).length ci at hrow
          obtain ⟨n, hn⟩ : ∃ n, Hid ((s.bl i).length = n) := ⟨_, Lib.hid rfl⟩
          rw [hn.out] at hrow hbi
          have HROW := Lib.hid hrow
          have c1 : wc.cell? ⟨d.J i, 1, none⟩ = some (d.bk i) := (HC.out.1.gm.j i hi).cell rfl
          rw [hrow] at c1
          obtain ⟨b3, hb3⟩ : ∃ b, Hid (wc.heap.size = b) := ⟨_, Lib.hid rfl⟩
          have hvb : Hid (∀ g, v'.ownBlock = some g → g < b3) := Lib.hid fun g hg => by rw [← hb3.out]; exact (HC.out.1.row.lt g hg).2
          have hb23 : w.heap.size + 3 ≤ b3 := by rw [← hb3.out]; exact HC.out.2.2.2.2.2.1
          clear hrow
          go_upto_region 15 with fail
          go_loopg [10, 56] n (fun g s10 s56 wr => ∃ p : Nat, p ≤ n ∧ g = n - p ∧ s56 = .int .i64 p ∧ ∃ A m c R, s10 = .slice A m c ∧ Hid (Dm wr base d { s with ov := ov', wl := upd s.wl i well, ws := wsP s i p } w.heap.size (w.heap.size + 1) (w.heap.size + 1 + 1) (w.heap.size + 3) v' l' ∧
            FR wr b3 (.slice A m c) R ∧ R.Nodup ∧ (∀ y, y ∈ R ↔ ∃ k, k < s.N ∧ s.id k = y ∧ y ∈ (s.bl i).take p ∧ ov' k = false ∧ wsP s i p k = []) ∧ Eff w wr (Foot d s) ∧ b3 ≤ wr.heap.size))
          case atStart =>
            exact ⟨0, by omega, by omega, rfl, none, 0, 0, [], rfl, Lib.hid ⟨by rw [wsP_zero]; exact HC.out.1, Or.inl ⟨rfl, rfl⟩, List.nodup_nil, fun y => ⟨fun h => (by cases h), fun ⟨k, _, _, h, _⟩ => (by simp at h)⟩, HC.out.2.2.2.2.1, by rw [hb3.out]; exact Nat.le_refl _⟩⟩
          case round =>
            obtain ⟨p, hp, hg, rfl, A, m, c, R, rfl, H2⟩ := hrel
            have hRl : R.length ≤ n := by
              have h1 := nodup_sub_len (l2 := s.bl i) H2.out.2.2.1 fun y hy => by
                obtain ⟨_, _, _, h, _⟩ := (H2.out.2.2.2.1 y).1 hy
                exact List.mem_of_mem_take h
              have := hn.out
              omega
            have hml := H2.out.2.1.len
            have hml2 : m ≤ 1000000 := by omega
            have hRl2 := Lib.hid hRl
            have hml3 := Lib.hid hml
            clear hRl hml
            have p0 : (0 : Int) ≤ (p : Int) := by omega
            by_cases hpn : p < n
            · have hlt : p < (s.bl i).length := by rw [hn.out]; exact hpn
              obtain ⟨y, hy⟩ : ∃ y, (s.bl i)[p]? = some y := ⟨_, List.getElem?_eq_getElem hlt⟩
              have hFi := H2.out.1.gm.f.1 i hi
              change FR wr base (d.bk i) (s.bl i) at hFi
              rw [HROW.out] at hFi
              obtain ⟨ga, oa, rfl, ca⟩ := hFi.cellAt hy
              obtain ⟨k, hk, rfl⟩ := mem_ids.1 (H.out.2.2.1 i hi y (List.mem_of_getElem? hy))
              have HY := Lib.hid hy
              have hout := Lib.hid (take_not (H.out.2.2.2.1 i hi) hy)
              obtain ⟨f2, hm2, hf2⟩ := H2.out.1.gm.m
              have hlook := hm2.look Try.underlying65 (zeroJob wr) (mem_ids.2 ⟨k, hk, rfl⟩)
              have e2 : f2 (s.id k) = .pointer (some ⟨d.J k, 0, none⟩) := hf2 k hk
              have hlook' : Sem.run Try.prog (Instr.lookup 65 (.map (some d.M)) (.int .i64 (s.id k : Int)) false) wr = .ok (.pointer (some ⟨d.J k, 0, none⟩)) wr := by rw [← e2]; exact hlook
              have cG : wr.cell? ⟨d.G, 0, none⟩ = some (.map (some d.M)) := H2.out.1.gm.g.cell rfl
              have cg : wr.cell? ⟨w.heap.size, 0, none⟩ = some (.pointer (some ⟨d.G, 0, none⟩)) := H2.out.1.g.cell rfl
              have c0 : wr.cell? ⟨d.J k, 0, none⟩ = some (.map (some (d.B k))) := (H2.out.1.gm.j k hk).cell rfl
              have j1 : (p : Int) < (n : Int) := by omega
              have hBk : MapV wr (d.B k) (wsP s i p k) (fun _ => .int .i64 1) := H2.out.1.gm.b k hk
              rw [wsP_out hout.out] at hBk
              obtain ⟨w5, hdel, hM5, hg5⟩ := hBk.del Try.underlying69 hk64 0
              have hD5 := (H2.out.1.turn hk hg5 hM5).congrWs (ws' := wsP s i (p + 1)) (fun q hq => by
                show wsP s i (p + 1) q = upd (wsP s i p) k _ q
                by_cases e : q = k
                · subst e
                  rw [upd_same]
                  unfold wsP
                  rw [if_pos (by rw [take_next HY.out]; simp), hx.out]
                · rw [upd_other _ _ e]
                  unfold wsP
                  have hne : s.id q ≠ s.id k := fun c => e (H.out.1.inj hq hk c)
                  have : s.id q ∈ (s.bl i).take (p + 1) ↔ s.id q ∈ (s.bl i).take p := by rw [take_next HY.out, List.mem_append, List.mem_singleton]; simp [hne]
                  by_cases c : s.id q ∈ (s.bl i).take p
                  · rw [if_pos c, if_pos (this.2 c)]
                  · rw [if_neg c, if_neg (fun h => c (this.1 h))])
              have hE5 := H2.out.2.2.2.2.1.grown hg5 (fun b hb => Or.inl (Or.inr (Or.inr ⟨k, hk, Or.inr (Or.inl (by simp only [Option.some.injEq] at hb; exact hb.symm))⟩)))
              have hF5 : FR w5 b3 (.slice A m c) R := H2.out.2.1.keep fun g hg hl => hg5.block g hl (fun e => by
                have := (H2.out.2.1.lt g hg).1
                have := (H2.out.1.foot (d.B k) (Or.inr (Or.inr ⟨k, hk, Or.inr (Or.inl rfl)⟩))).2.2.2
                simp only [Option.some.injEq] at e
                omega)
              have hs5 : b3 ≤ w5.heap.size := Nat.le_trans H2.out.2.2.2.2.2 hg5.size
              have c05 : w5.cell? ⟨d.J k, 0, none⟩ = some (.map (some (d.B k))) := (hD5.gm.j k hk).cell rfl
              have c25 : w5.cell? ⟨d.J k, 2, none⟩ = some (.bool (ov' k)) := (hD5.gm.j k hk).cell rfl
              have hlen5 := (hD5.gm.b k hk).len Try.underlying69 3
              change (Builtin.len_ _ _ _).run _ w5 = .ok (.int .i64 ((wsP s i (p + 1) k).length : Nat)) w5 at hlen5
              have H5 := Lib.hid (show _ ∧ _ ∧ _ ∧ _ from ⟨hD5, hE5, hF5, hs5⟩)
              obtain ⟨z, hz⟩ : ∃ z, Hid (s.id k = z) := ⟨_, Lib.hid rfl⟩
              obtain ⟨q, hq⟩ : ∃ q, Hid ((wsP s i (p + 1) k).length = q) := ⟨_, Lib.hid rfl⟩
              obtain ⟨ok, hok⟩ : ∃ o, Hid (ov' k = o) := ⟨_, Lib.hid rfl⟩
              rw [hz.out] at ca hlook'
              rw [hq.out] at hlen5
              rw [hok.out] at c25
              have hmem : Hid (∀ l0 : List Nat, (∀ y, y ∈ l0 ↔ y ∈ R ∨ (y = s.id k ∧ ov' k = false ∧ wsP s i (p + 1) k = [])) → ∀ y, y ∈ l0 ↔ ∃ k, k < s.N ∧ s.id k = y ∧ y ∈ (s.bl i).take (p + 1) ∧ ov' k = false ∧ wsP s i (p + 1) k = []) := Lib.hid fun l0 h0 y => by
                rw [h0, H2.out.2.2.2.1, take_next HY.out]
                constructor
                · rintro (⟨k2, h1, h2, h3, h4, h5⟩ | ⟨h1, h2, h3⟩)
                  · exact ⟨k2, h1, h2, List.mem_append_left _ h3, h4, by rw [wsP_in (p := p) (by rw [h2]; exact h3) (by omega)]; exact h5⟩
                  · exact ⟨k, hk, h1.symm, by rw [h1]; simp, h2, h3⟩
                · rintro ⟨k2, h1, h2, h3, h4, h5⟩
                  rw [List.mem_append, List.mem_singleton] at h3
                  rcases h3 with h3 | h3
                  · left
                    exact ⟨k2, h1, h2, h3, h4, by rw [← wsP_in (p := p) (p' := p + 1) (by rw [h2]; exact h3) (by omega)]; exact h5⟩
                  · right
                    have e : k2 = k := H.out.1.inj h1 hk (by rw [h2, h3])
                    subst e
                    exact ⟨h3, h4, h5⟩
              have hzR : Hid (z ∉ R) := Lib.hid fun c => by
                obtain ⟨_, _, _, h3, _⟩ := (H2.out.2.2.2.1 z).1 c
                rw [← hz.out] at h3
                exact hout.out h3
              clear hlook e2 hm2 hf2 hy hFi hBk hM5 hg5 hD5 hE5 hF5 hs5
              cases ok with
              | true =>
                go_wp2_with fail
                go_roundg (n - (p + 1))
                case measure => omega
                case rel =>
                  exact ⟨p + 1, by omega, rfl, by go_num, A, m, c, R, rfl, Lib.hid ⟨H5.out.1, H5.out.2.2.1, H2.out.2.2.1, hmem.out R (fun y => ⟨Or.inl, fun h => h.elim id (fun h => by rw [hok.out] at h; cases h.2.1)⟩), H5.out.2.1, H5.out.2.2.2⟩⟩
              | false =>
                by_cases hq0 : q = 0
                · subst hq0
                  have hs5 := H5.out.2.2.2
                  go_wp2_with (at_builtin; refine wpList_frpush H5.out.2.2.1 (k := z) hml2 hs5 rfl _ _ rfl rfl rfl rfl ?_)
                  intro A' c' W' hg6 hF6 hr6
                  have hD6 := H5.out.1.beyond (b3 := b3) hg6 (fun b hb => (H5.out.2.2.1.lt b hb).1) hb23 hvb.out
                  have hE6 := H5.out.2.1.grown hg6 (fun b hb => Or.inr (by have := (H5.out.2.2.1.lt b hb).1; omega))
                  have H6 := Lib.hid (show _ ∧ _ ∧ _ ∧ _ from ⟨hD6, hE6, hF6, hg6.size⟩)
                  clear hg6 hF6 hr6 hD6 hE6
                  go_wp2_with fail
                  go_roundg (n - (p + 1))
                  case measure => omega
                  case rel =>
                    refine ⟨p + 1, by omega, rfl, by go_num, A', m + 1, c', R ++ [z], rfl, Lib.hid ⟨H6.out.1, H6.out.2.2.1, ?_, hmem.out _ (fun y => ?_), H6.out.2.1, Nat.le_trans hs5 H6.out.2.2.2⟩⟩
                    · rw [List.nodup_append]
                      refine ⟨H2.out.2.2.1, by simp, fun y hy u hu e => ?_⟩
                      simp at hu
                      rw [e, hu] at hy
                      exact hzR.out hy
                    · rw [List.mem_append, List.mem_singleton, hz.out]
                      constructor
                      · rintro (h | h)
                        · exact Or.inl h
                        · exact Or.inr ⟨h, hok.out, List.eq_nil_of_length_eq_zero hq.out⟩
                      · rintro (h | h)
                        · exact Or.inl h
                        · exact Or.inr h.1
                · have hq1 : ((q : Int) == 0) = false := by simp [hq0]
                  go_wp2_with fail
                  go_roundg (n - (p + 1))
                  case measure => omega
                  case rel =>
                    exact ⟨p + 1, by omega, rfl, by go_num, A, m, c, R, rfl, Lib.hid ⟨H5.out.1, H5.out.2.2.1, H2.out.2.2.1, hmem.out R (fun y => ⟨Or.inl, fun h => h.elim id (fun h => absurd (by rw [← hq.out, h.2.2]; rfl) hq0)⟩), H5.out.2.1, H5.out.2.2.2⟩⟩
            · obtain rfl : n = p := by omega
              have C := Lib.hid (sort_frp H2.out.2.1 hml2)
              go_wp2_with fail
              refine C.out.mono ?_
              rintro x5 w5 ⟨rfl, R', hF5, hp5, hpm5, hg5⟩
              have hD5 := H2.out.1.beyond (b3 := b3) hg5 (fun b hb => (H2.out.2.1.lt b hb).1) hb23 hvb.out
              have hE5 := H2.out.2.2.2.2.1.grown hg5 (fun b hb => Or.inr (by have := (H2.out.2.1.lt b hb).1; omega))
              obtain ⟨Ad, cd, rfl⟩ := hD5.row.form
              have hld : l'.length ≤ 1000000 := by have := HC.out.2.2.2.2.2.2; omega
              have C2 := Lib.hid (sort_frp hD5.row hld)
              have cd5 : w5.cell? ⟨w.heap.size + 1, 0, none⟩ = some (.slice Ad l'.length cd) := hD5.dd.cell rfl
              have H5 := Lib.hid (show _ ∧ _ ∧ _ ∧ _ ∧ _ from ⟨hD5, hE5, hF5, hp5, hpm5⟩)
              clear C hF5 hp5 hpm5 hg5 hD5 hE5
              go_wp2_with fail
              refine C2.out.mono ?_
              rintro x6 w6 ⟨rfl, D, hF6, hp6, hpm6, hg6⟩
              have hown : ∀ b, (Value.slice Ad l'.length cd).ownBlock = some b → w.heap.size + 3 ≤ b ∧ b < b3 := fun b hb => ⟨(H5.out.1.row.lt b hb).1, hvb.out b hb⟩
              have hG6 : Gm w6 base d { s with ov := ov', wl := upd s.wl i well, ws := wsP s i n } := H5.out.1.gm.grown hg6 fun b hb c => by
                have := (hown b c).1
                have := (H5.out.1.foot b hb).2.2.2
                omega
              have hE6 := H5.out.2.1.grown hg6 (fun b hb => Or.inr (by have := (hown b hb).1; omega))
              have hR6 : FR w6 b3 (.slice A m c) R' := H5.out.2.2.1.keep fun g hg hl => hg6.block g hl (fun e => by
                have := (H5.out.2.2.1.lt g hg).1
                have := (hown g e.symm).2
                omega)
              have cd6 : w6.cell? ⟨w.heap.size + 1, 0, none⟩ = some (.slice Ad l'.length cd) := by
                have hdd : Bk w6 (w.heap.size + 1) 25 #[.slice Ad l'.length cd] := (hg6.block _ H5.out.1.dd.lt (fun e => by have := (hown _ e.symm).1; omega)).trans H5.out.1.dd
                exact hdd.cell rfl
              have H6 := Lib.hid (show _ ∧ _ ∧ _ ∧ _ ∧ _ ∧ _ from ⟨hG6, hE6, hR6, hF6, hp6, hpm6⟩)
              clear C2 hF6 hp6 hpm6 hg6 hG6 hE6 hR6 cd5
              go_upto_region 24 with fail
              go_quiet (fail)
              go_wp2_with fail
              go_ret3
              refine Or.inr (Or.inr ⟨i, hi, by rw [hx.out], hov.out, hws.out, A, m, c, R', Ad, _, cd, D, ov', rfl, HC.out.2.1, by rw [hn.out]; exact H6.out.1.heap rfl, H6.out.2.2.1.mono (by omega), rise_of H5.out.2.2.2.1 H5.out.2.2.2.2 H2.out.2.2.1, fun y => ?_, H6.out.2.2.2.1.mono (by omega), rise_of H6.out.2.2.2.2.1 H6.out.2.2.2.2.2 HC.out.2.2.1, fun y => ?_, ⟨H6.out.2.1.os, H6.out.2.1.tape, H6.out.2.1.output, H6.out.2.1.size, H6.out.2.1.block⟩⟩)
              · rw [H5.out.2.2.2.2.mem_iff, H2.out.2.2.2.1, hn.out, show (s.bl i).take n = s.bl i from List.take_of_length_le (by rw [hn.out]; exact Nat.le_refl _)]
              · rw [H6.out.2.2.2.2.2.mem_iff, HC.out.2.2.2.1]
end Go.Proofs.Ytecimlbdcldkdaa
