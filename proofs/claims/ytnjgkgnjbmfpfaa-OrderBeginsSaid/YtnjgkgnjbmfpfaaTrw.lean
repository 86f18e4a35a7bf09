/- The walk of order.Turns. -/
import Derived.Test.YtnjgkgnjbmfpfaaUsw
import Derived.Test.YtnjgkgnjbmfpfaaTrp
import Derived.Test.YtnjgkgnjbmfpfaaSrd
namespace Go.Proofs.Ytnjgkgnjbmfpfaa
open Go.RowKit Go.Maps Go.Sort Ot

theorem SR.mono {w : World} {b b' : Nat} {v : Value} {ns : List Str} (h : SR w b v ns) (hb : b' ≤ b) : SR w b' v ns := by
  rcases h with h | ⟨g, cap, cs, h1, h2, h3⟩
  · exact Or.inl h
  · exact Or.inr ⟨g, cap, cs, h1, Nat.le_trans hb h2, h3⟩
/-- the memory of order.Turns under way: the whole, the users, their names, what is told -/
structure TM (wh : Nat → Int) (w wr : World) (b2 M : Nat) (ks : List Str) (J : Str → Nat) (hs : Str → Nat → Int) (lv : Str → Value) (ls : Str → List Nat) (names outv : Value) (ns : List Str) (out : List Nat) : Prop where
  wh : Bk wr w.heap.size 28 #[.int .i64 (wh 0), .int .i64 (wh 1), .int .i64 (wh 2), .int .i64 (wh 3)]
  um : UM LR wr (w.heap.size + 1) M ks J hs lv ls
  ft : ∀ b, Ft M ks J lv b → b < b2
  sr : SR wr (w.heap.size + 1) names ns
  sb : ∀ g, names.ownBlock = some g → g < b2 ∧ ¬ Ft M ks J lv g
  fr : FR wr b2 outv out
  lt : b2 ≤ wr.heap.size
  bel : Below w.heap.size w wr
section
variable {wh : Nat → Int} {w wr w' : World} {b2 M : Nat} {ks : List Str} {J : Str → Nat} {hs : Str → Nat → Int} {lv : Str → Value} {ls : Str → List Nat} {names outv : Value} {ns : List Str} {out : List Nat}
theorem TM.pass (h : TM wh w wr b2 M ks J hs lv ls names outv ns out) (hb : Below wr.heap.size wr w') : TM wh w w' b2 M ks J hs lv ls names outv ns out :=
  ⟨h.wh.pass hb, h.um.pass rowyL hb, h.ft, h.sr.keep fun g _ hl => hb.block g hl, h.sb, h.fr.pass hb, Nat.le_trans h.lt hb.size, below_pass h.bel h.bel.size hb⟩
/-- a part of the users has turned alone -/
theorem TM.turn (h : TM wh w wr b2 M ks J hs lv ls names outv ns out) {hs' : Str → Nat → Int} {lv' : Str → Value} {ls' : Str → List Nat} (hU : UM LR w' (w.heap.size + 1) M ks J hs' lv' ls') {u : Str} (hu : u ∈ ks) (hk : ∀ b, b ≠ J u → w'.heap[b]? = wr.heap[b]?)
    (hft : ∀ b, Ft M ks J lv' b → Ft M ks J lv b) (hsz : wr.heap.size ≤ w'.heap.size) (hbel : Below w.heap.size w w') : TM wh w w' b2 M ks J hs' lv' ls' names outv ns out := by
  have hJ := h.ft (J u) (Or.inr ⟨u, hu, Or.inl rfl⟩)
  have hlo := h.um.lo.2 u hu
  refine ⟨(hk _ (by omega)).trans h.wh, hU, fun b hb => h.ft b (hft b hb), h.sr.keep fun g hg _ => hk g fun e => (h.sb g hg).2 (by rw [e]; exact Or.inr ⟨u, hu, Or.inl rfl⟩), fun g hg => ⟨(h.sb g hg).1, fun c => (h.sb g hg).2 (hft g c)⟩, h.fr.keep fun g hg _ => hk g (by have := (h.fr.lt g hg).1; omega), Nat.le_trans h.lt hsz, hbel⟩
/-- a user's row is a part of what it was -/
theorem TM.cut (h : TM wh w wr b2 M ks J hs lv ls names outv ns out) {u : Str} (hu : u ∈ ks) {r : Value} {l : List Nat} (hr : LR wr (w.heap.size + 1) r l) (ho : r.ownBlock = (lv u).ownBlock) :
    TM wh w (wr.setCell ⟨J u, 4, none⟩ r) b2 M ks J hs (updS lv u r) (updS ls u l) names outv ns out := by
  have hfar : ∀ b, b ≠ J u → (wr.setCell ⟨J u, 4, none⟩ r).heap[b]? = wr.heap[b]? := fun b hb => Below.heap_setCell wr _ _ b hb
  have hU := h.um.turn rowyL (w' := wr.setCell ⟨J u, 4, none⟩ r) hu (hs' := hs u) (r := r) (l := l) (fun b _ h1 _ => hfar b h1) ((h.um.j u hu).set 4 r) (hr.keep fun g hg _ => hfar g fun e => (h.um.own rowyL hu (g := g) (by rw [← ho]; exact hg)).2 u hu e) (fun g hg => Or.inl (by rw [← ho]; exact hg))
  rw [updS_id] at hU
  refine h.turn hU hu hfar (fun b hb => ?_) (by simp) (h.bel.setCell (by have := h.um.lo.2 u hu; dsimp only; omega) _)
  rcases hb with hb | ⟨x, hx, hb | hb⟩
  · exact Or.inl hb
  · exact Or.inr ⟨x, hx, Or.inl hb⟩
  · refine Or.inr ⟨x, hx, Or.inr ?_⟩
    by_cases e : x = u
    · subst e; rw [updS_same] at hb; rw [← ho]; exact hb
    · rw [updS_other _ _ e] at hb; exact hb
/-- what a user has is stored -/
theorem TM.give (h : TM wh w wr b2 M ks J hs lv ls names outv ns out) {u : Str} (hu : u ∈ ks) (v : Nat → Int) :
    TM wh w ((((wr.setCell ⟨J u, 0, none⟩ (.int .i64 (v 0))).setCell ⟨J u, 1, none⟩ (.int .i64 (v 1))).setCell ⟨J u, 2, none⟩ (.int .i64 (v 2))).setCell ⟨J u, 3, none⟩ (.int .i64 (v 3))) b2 M ks J (updS hs u v) lv ls names outv ns out := by
  have hlo := h.um.lo.2 u hu
  refine h.turn (h.um.give rowyL hu v) hu (fun b hb => (Below.heap_setCell _ _ _ b hb).trans ((Below.heap_setCell _ _ _ b hb).trans ((Below.heap_setCell _ _ _ b hb).trans (Below.heap_setCell _ _ _ b hb)))) (fun b hb => hb) (by simp) ((((h.bel.setCell (by dsimp only; omega) _).setCell (by dsimp only; omega) _).setCell (by dsimp only; omega) _).setCell (by dsimp only; omega) _)
/-- one more is told -/
theorem TM.more (h : TM wh w wr b2 M ks J hs lv ls names outv ns out) {r : Value} {l : List Nat} (hg : wr.grownBy w' outv.ownBlock) (hF : FR w' b2 r l) : TM wh w w' b2 M ks J hs lv ls names r ns l := by
  have ho : ∀ b, b < b2 → b < wr.heap.size → w'.heap[b]? = wr.heap[b]? := fun b hb hl => hg.block b hl fun c => by have := (h.fr.lt b c.symm).1; omega
  have hb0 : w.heap.size + 1 ≤ b2 := by have := h.ft M (Or.inl rfl); have := h.um.lo.1; omega
  exact ⟨(ho _ (by omega) h.wh.lt).trans h.wh, h.um.keep rowyL fun b hb => ho b (h.ft b hb) (h.um.lt rowyL hb).2, h.ft, h.sr.keep fun g hg1 hl => ho g (h.sb g hg1).1 hl, h.sb, hF, Nat.le_trans h.lt hg.size, h.bel.grown hg h.bel.size fun q hq => by have := (h.fr.lt q hq).1; omega⟩
theorem TM.congr (h : TM wh w wr b2 M ks J hs lv ls names outv ns out) {hs' : Str → Nat → Int} (h1 : ∀ k, k ∈ ks → hs k = hs' k) : TM wh w wr b2 M ks J hs' lv ls names outv ns out :=
  ⟨h.wh, h.um.congr h1 (fun _ _ => rfl), h.ft, h.sr, h.sb, h.fr, h.lt, h.bel⟩
end
/-- what a round has picked among the first k names -/
def Pck (P : Par) (J : Str → Nat) (ns : List Str) (ls : Str → List Nat) (out : List Nat) (k : Nat) (v : Value) (x y : Int) : Prop :=
  (Shr.pickN (nN P out ns) (dN P out ns) (empt ls ns) k = -1 ∧ v = .pointer none ∧ x = 0 ∧ y = 0) ∨ ∃ b : Nat, b < k ∧ Shr.pickN (nN P out ns) (dN P out ns) (empt ls ns) k = b ∧ v = .pointer (some ⟨J (ns.getD b []), 0, none⟩) ∧ x = nN P out ns b ∧ y = dN P out ns b

set_option maxRecDepth 100000 in
set_option maxHeartbeats 8000000 in
theorem turns_any {w : World} (P : Par) (Au : Option Addr) (k1 : Nat) (Aj : Option Addr) (k2 : Nat) (hwh : ∀ i, In64 (P.wh i)) (hh : UsesIn w Au P.nh P.h) (hj : WantsIn w Aj P.n P.js) (hnh : P.nh ≤ 1000) (hn : P.n ≤ 1000) :
    Calls Try.prog 30 #[vecV P.wh, .slice Au P.nh k1, .slice Aj P.n k2] w fun e w' => ∃ A c l, e = .returned (.slice A P.n c) ∧ FR w' w.heap.size (.slice A P.n c) l ∧ Turns P l ∧ Below w.heap.size w w' := by
  obtain ⟨n, hnn⟩ : ∃ n, Hid (P.n = n) := ⟨_, Lib.hid rfl⟩
  obtain ⟨nh, hnnh⟩ : ∃ n, Hid (P.nh = n) := ⟨_, Lib.hid rfl⟩
  obtain ⟨v0, e0⟩ : ∃ n, Hid (P.wh 0 = n) := ⟨_, Lib.hid rfl⟩
  obtain ⟨v1, e1⟩ : ∃ n, Hid (P.wh 1 = n) := ⟨_, Lib.hid rfl⟩
  obtain ⟨v2, e2⟩ : ∃ n, Hid (P.wh 2 = n) := ⟨_, Lib.hid rfl⟩
  obtain ⟨v3, e3⟩ : ∃ n, Hid (P.wh 3 = n) := ⟨_, Lib.hid rfl⟩
  have HW := Lib.hid hwh
  have HJ := Lib.hid hj
  have hal := fun o => (Below.refl w.heap.size w).alloc (Nat.le_refl _) o
  have C1 := Lib.hid (users_any (w := w.alloc (.cells #[.int .i64 v0, .int .i64 v1, .int .i64 v2, .int .i64 v3] 28)) Au P.nh k1 P.h Aj P.n k2 P.js (hh.keep (hal _)) (hj.keep (hal _)) hnh hn)
  unfold vecV
  rw [hnn.out] at hn
  rw [hnn.out, hnnh.out] at C1 ⊢
  rw [e0.out, e1.out, e2.out, e3.out]
  have hnI : (n : Int) ≤ 1000 := by omega
  clear hwh hh hj hnh hal
  go_enter Try.func30, Try.ntmps30
  go_wp2_with fail
  refine C1.out.mono ?_
  rintro e w1 ⟨M, ks, J, lv, ls, rfl, hU, hK, hKl, hR, hB1⟩
  have C2 := Lib.hid (sorted_any hU.m (by omega))
  have H1 := Lib.hid (show _ ∧ _ ∧ _ ∧ _ ∧ _ from ⟨hU, hK, hKl, hR, hB1⟩)
  clear hU hK hR hB1 C1
  go_wp2_with fail
  refine C2.out.mono ?_
  rintro e w2 ⟨A8, m8, c8, ns, rfl, hS, hm8, hpm, hpw, hB2⟩
  have hm8n : m8 ≤ n := by rw [hm8, hpm.length_eq]; exact hKl
  have hLf : Lefts P [] ns ls := ⟨sorted_strict hpm H1.out.1.m.nodup hpw, fun u => by rw [hpm.mem_iff, H1.out.2.1, hnn.out], fun u hu => by
    obtain ⟨h1, h2⟩ := H1.out.2.2.2.1 u (hpm.mem_iff.1 hu)
    exact ⟨h1, fun x => by rw [h2 x, hnn.out]; simp⟩⟩
  have hw1 : w.heap.size + 1 ≤ w1.heap.size := by have := H1.out.2.2.2.2.size; simpa using this
  have hT : TM P.wh w w2 w2.heap.size M ks J (fun u => now P [] u) lv ls (.slice A8 m8 c8) (.slice none 0 0) ns [] := by
    refine ⟨by rw [e0.out, e1.out, e2.out, e3.out]; exact ((Bk.new w _ _).pass H1.out.2.2.2.2).pass hB2, ((H1.out.1.pass rowyL hB2).congr (fun k _ => ?_) (fun _ _ => rfl)).mono (by simp), fun b hb => Nat.lt_of_lt_of_le (H1.out.1.lt rowyL hb).2 hB2.size, hS.mono hw1, fun g hg => ⟨(hS.lt g hg).2, fun c => ?_⟩, Or.inl ⟨rfl, rfl⟩, Nat.le_refl _, ?_⟩
    · show hasB k P.h nh = hasB k P.h P.nh
      rw [hnnh.out]
    · have h1 := (H1.out.1.lt rowyL c).2
      have h2 := (hS.lt g hg).1
      omega
    · have h1 : Below w.heap.size w w1 := ((Below.refl w.heap.size w).alloc (Nat.le_refl _) _).trans (H1.out.2.2.2.2.mono (by simp))
      exact h1.trans (hB2.mono (by omega))
  obtain ⟨b2, hb2⟩ : ∃ b, Hid (w2.heap.size = b) := ⟨_, Lib.hid rfl⟩
  rw [hb2.out] at hT
  have HT := Lib.hid hT
  have HL := Lib.hid hLf
  have HM := Lib.hid (show _ ∧ _ from ⟨hm8, hpm⟩)
  clear hT hLf hS hm8 hpm hpw hB2 hw1 H1 C2
  go_wp2_with fail
  rename World => wz
  go_loopg [9, 25] n (fun g s9 s25 wx => ∃ (k : Nat) (A9 : Option Addr) (c9 : Nat) (lv : Str → Value) (ls : Str → List Nat) (out : List Nat), k ≤ n ∧ g = n - k ∧ s25 = .int .i64 k ∧ s9 = .slice A9 k c9 ∧ Hid (TM P.wh w wx b2 M ks J (fun u => now P out u) lv ls (.slice A8 m8 c8) (.slice A9 k c9) ns out ∧ Lefts P out ns ls ∧ Ot.Told P out))
  case atStart => exact ⟨0, none, 0, lv, ls, [], by omega, by omega, rfl, rfl, Lib.hid ⟨HT.out, HL.out, Ot.Told.nil⟩⟩
  case round =>
    clear HT HL
    obtain ⟨k, A9, c9, lv, ls, out, hk, hg, rfl, rfl, H⟩ := hrel
    have hol := Lib.hid H.out.1.fr.len
    by_cases hlt : k < n
    · have hlt' : (k : Int) < (n : Int) := by omega
      rename World => wo
      have hlow := H.out.1.bel.size
      obtain ⟨lb, hlb⟩ : ∃ x, wo.heap.size = x := ⟨_, rfl⟩
      go_wp2_with fail
      go_loopg [10, 29] m8 (fun g s10 s29 wi => ∃ (j : Nat) (x y : Int) (v10 : Value), j ≤ m8 ∧ g = m8 - j ∧ v10 = s10 ∧ s29 = .int .i64 j ∧ Hid (Pck P J ns ls out j v10 x y ∧ Bk wi lb 23 #[.int .i64 x, .int .i64 y] ∧ Below wo.heap.size wo wi))
      case atStart =>
        exact ⟨0, 0, 0, _, by omega, by omega, rfl, rfl, Lib.hid ⟨Or.inl ⟨rfl, rfl, rfl, rfl⟩, Bk.newAt hlb, (Below.refl _ _).alloc (Nat.le_refl _) _⟩⟩
      case round =>
        obtain ⟨j, x, y, v10, hj, hg2, rfl, rfl, H2⟩ := hrel
        have hj0 : (0 : Int) ≤ (j : Int) := by omega
        have HT := Lib.hid (H.out.1.pass H2.out.2.2)
        by_cases hjm : j < m8
        · have hjm' : (j : Int) < (m8 : Int) := by omega
          have hjn : j < ns.length := by rw [← HM.out.1]; exact hjm
          obtain ⟨u, hu⟩ : ∃ u, ns[j]? = some u := ⟨_, List.getElem?_eq_getElem hjn⟩
          have hud : ns.getD j [] = u := by rw [List.getD_eq_getElem?_getD, hu]; rfl
          obtain ⟨g8, rfl, cn⟩ := HT.out.sr.cellAt hu
          have huk : u ∈ ks := HM.out.2.mem_iff.1 (List.mem_of_getElem? hu)
          have hlook := HT.out.um.m.look Try.underlying65 (zeroU wr) huk
          have hjob := HT.out.um.j u huk
          obtain ⟨A5, c5, hlv⟩ := (HT.out.um.l u huk).form
          obtain ⟨m5, hm5⟩ : ∃ m, Hid ((ls u).length = m) := ⟨_, Lib.hid rfl⟩
          rw [hm5.out] at hlv
          have e4 : wr.cell? ⟨J u, 4, none⟩ = some (.slice A5 m5 c5) := by rw [← hlv]; exact hjob.cell rfl
          have HU := Lib.hid (show _ ∧ _ ∧ _ from ⟨hud, huk, hlv⟩)
          by_cases h5 : m5 = 0
          · subst h5
            have hno : Hid (Shr.pickN (nN P out ns) (dN P out ns) (empt ls ns) (j + 1) = Shr.pickN (nN P out ns) (dN P out ns) (empt ls ns) j) := Lib.hid (Shr.pickN_out (by
              unfold empt
              rw [HU.out.1, List.eq_nil_of_length_eq_zero hm5.out]
              rfl))
            clear hu hud huk hjob hlv
            go_wp2_with fail
            go_roundg (m8 - (j + 1))
            case measure => omega
            case rel =>
              refine ⟨j + 1, x, y, _, by omega, rfl, rfl, by go_num, Lib.hid ⟨?_, H2.out.2⟩⟩
              rcases H2.out.1 with ⟨h1, h2⟩ | ⟨b, h1, h2, h3⟩
              · exact Or.inl ⟨hno.out.trans h1, h2⟩
              · exact Or.inr ⟨b, by omega, hno.out.trans h2, h3⟩
          · have h5' : ((m5 : Int) == 0) = false := by simp; omega
            unfold userCells at hjob
            obtain ⟨x0, hx0⟩ : ∃ v, Hid (now P out u 0 = v) := ⟨_, Lib.hid rfl⟩
            obtain ⟨x1, hx1⟩ : ∃ v, Hid (now P out u 1 = v) := ⟨_, Lib.hid rfl⟩
            obtain ⟨x2, hx2⟩ : ∃ v, Hid (now P out u 2 = v) := ⟨_, Lib.hid rfl⟩
            obtain ⟨x3, hx3⟩ : ∃ v, Hid (now P out u 3 = v) := ⟨_, Lib.hid rfl⟩
            obtain ⟨xn, hxn⟩ : ∃ v, Hid (num P out u = v) := ⟨_, Lib.hid rfl⟩
            obtain ⟨xd, hxd⟩ : ∃ v, Hid (den P out u = v) := ⟨_, Lib.hid rfl⟩
            have hnr : ∀ i, now P out u i ≤ 9223372036854775807 := fun i => Int.le_trans (now_range (P := P) out u i).2 (by unfold most; omega)
            have C := Lib.hid (fun W => dominant_any (now P out u 0) (now P out u 1) (now P out u 2) (now P out u 3) (P.wh 0) (P.wh 1) (P.wh 2) (P.wh 3) (hnr 0) (hnr 1) (hnr 2) (hnr 3) (HW.out 0).2 (HW.out 1).2 (HW.out 2).2 (HW.out 3).2 W)
            have eN := hxn.out
            have eD := hxd.out
            unfold num at eN
            unfold den at eD
            rw [eN, eD] at C
            rw [hx0.out, hx1.out, hx2.out, hx3.out, e0.out, e1.out, e2.out, e3.out] at C
            rw [hx0.out, hx1.out, hx2.out, hx3.out] at hjob
            have hrng := num_range P (fun i => (HW.out i).2) out u
            rw [hxn.out, hxd.out] at hrng
            obtain ⟨hr1, hr2⟩ := hrng
            have hwhb := HT.out.wh
            rw [e0.out, e1.out, e2.out, e3.out] at hwhb
            obtain ⟨qa, hqa⟩ : ∃ v, Hid ((Shr.dom (Shr.four x0 x1 x2 x3) (Shr.four v0 v1 v2 v3)).at_ = v) := ⟨_, Lib.hid rfl⟩
            rw [hqa.out] at C
            clear eN eD hnr
            have a0 : wr.cell? ⟨J u, 0, none⟩ = some (.int .i64 x0) := hjob.cell rfl
            have a1 : wr.cell? ⟨J u, 1, none⟩ = some (.int .i64 x1) := hjob.cell rfl
            have a2 : wr.cell? ⟨J u, 2, none⟩ = some (.int .i64 x2) := hjob.cell rfl
            have a3 : wr.cell? ⟨J u, 3, none⟩ = some (.int .i64 x3) := hjob.cell rfl
            have b0 : wr.cell? ⟨w.heap.size, 0, none⟩ = some (.int .i64 v0) := hwhb.cell rfl
            have b1 : wr.cell? ⟨w.heap.size, 1, none⟩ = some (.int .i64 v1) := hwhb.cell rfl
            have b2' : wr.cell? ⟨w.heap.size, 2, none⟩ = some (.int .i64 v2) := hwhb.cell rfl
            have b3 : wr.cell? ⟨w.heap.size, 3, none⟩ = some (.int .i64 v3) := hwhb.cell rfl
            have A0 : ∀ o, (wr.alloc o).cell? ⟨J u, 0, none⟩ = some (.int .i64 x0) := fun o => keep_alloc a0
            have A1 : ∀ o, (wr.alloc o).cell? ⟨J u, 1, none⟩ = some (.int .i64 x1) := fun o => keep_alloc a1
            have A2 : ∀ o, (wr.alloc o).cell? ⟨J u, 2, none⟩ = some (.int .i64 x2) := fun o => keep_alloc a2
            have A3 : ∀ o, (wr.alloc o).cell? ⟨J u, 3, none⟩ = some (.int .i64 x3) := fun o => keep_alloc a3
            have B0 : ∀ o, (wr.alloc o).cell? ⟨w.heap.size, 0, none⟩ = some (.int .i64 v0) := fun o => keep_alloc b0
            have B1 : ∀ o, (wr.alloc o).cell? ⟨w.heap.size, 1, none⟩ = some (.int .i64 v1) := fun o => keep_alloc b1
            have B2 : ∀ o, (wr.alloc o).cell? ⟨w.heap.size, 2, none⟩ = some (.int .i64 v2) := fun o => keep_alloc b2'
            have B3 : ∀ o, (wr.alloc o).cell? ⟨w.heap.size, 3, none⟩ = some (.int .i64 v3) := fun o => keep_alloc b3
            have hBel := Lib.hid H2.out.2.2
            have hLB := Lib.hid H2.out.2.1
            have hws := hBel.out.size
            clear hjob hwhb hlv hu hud
            go_upto_region 13 with fail
            go_cut [15] (fun s15 wx => ∃ gx, s15 = .pointer (some ⟨gx, 0, none⟩) ∧ Hid (lb < gx ∧ Bk wx gx 23 #[.int .i64 xn, .int .i64 xd] ∧ Bk wx lb 23 #[.int .i64 x, .int .i64 y] ∧ Below wo.heap.size wo wx))
            case first =>
              go_region_with (go_at_call 19; refine (C.out _).mono ?_; rintro e w3 ⟨rfl, hb⟩; first | (have q := (Bk.new wr 23 #[.int .i64 0, .int .i64 0]).drew.pass hb; have q0 := q.cell (i := 0) rfl; have q1 := q.cell (i := 1) rfl; have f0 := q.free 0; have f1 := q.free 1) | skip)
              all_goals
                go_wp2_with fail
                go_meet
                have hlt0 := hLB.out.lt
                have hsz := hb.size
                first
                | exact ⟨wr.heap.size, rfl, Lib.hid ⟨hlt0, (q.set 0 _).set 1 _, ((((hLB.out.alloc _).drew.pass hb).far (by dsimp only; omega) _).far (by dsimp only; omega) _), ((below_pass (hBel.out.alloc hws _).drew (Nat.le_trans hws (by simp)) hb).setCell hws _).setCell hws _⟩⟩
                | exact ⟨w3.heap.size, rfl, Lib.hid ⟨Nat.lt_of_lt_of_le hlt0 hsz, Bk.new w3 _ _, (hLB.out.drew.pass hb).alloc _, (below_pass hBel.out.drew hws hb).alloc (Nat.le_trans hws hsz) _⟩⟩
            case rest =>
              obtain ⟨gx, rfl, HX⟩ := hcut
              clear a0 a1 a2 a3 b0 b1 b2' b3 A0 A1 A2 A3 B0 B1 B2 B3 cn hlook e4 C
              have c0 : wc.cell? ⟨gx, 0, none⟩ = some (.int .i64 xn) := HX.out.2.1.cell rfl
              have c1 : wc.cell? ⟨gx, 1, none⟩ = some (.int .i64 xd) := HX.out.2.1.cell rfl
              have l0 : wc.cell? ⟨lb, 0, none⟩ = some (.int .i64 x) := HX.out.2.2.1.cell rfl
              have l1 : wc.cell? ⟨lb, 1, none⟩ = some (.int .i64 y) := HX.out.2.2.1.cell rfl
              have f0 := HX.out.2.2.1.free 0
              have f1 := HX.out.2.2.1.free 1
              have hNd : Hid (nN P out ns j = xn ∧ dN P out ns j = xd) := Lib.hid ⟨by unfold nN; rw [HU.out.1]; exact hxn.out, by unfold dN; rw [HU.out.1]; exact hxd.out⟩
              have hem : Hid (empt ls ns j = false) := Lib.hid (by
                unfold empt
                rw [HU.out.1]
                cases c : ls u with
                | nil => have := hm5.out; rw [c] at this; exact absurd this.symm h5
                | cons a b => rfl)
              rcases H2.out.1 with ⟨h1, h2, h3, h4⟩ | ⟨b, h1, h2, h3, h4, h5⟩
              · subst h2
                have hyes := Lib.hid (Shr.pickN_yes hem.out (Or.inl (by rw [h1]; omega)))
                clear h1
                go_wp2_with fail
                go_region
                all_goals
                  go_wp2_with fail
                  go_roundg (m8 - (j + 1))
                  case measure => omega
                  case rel => exact ⟨j + 1, xn, xd, _, by omega, rfl, rfl, by go_num, Lib.hid ⟨Or.inr ⟨j, by omega, hyes.out, by rw [HU.out.1], hNd.out.1.symm, hNd.out.2.symm⟩, (HX.out.2.2.1.drew.set 0 _).set 1 _, (HX.out.2.2.2.drew.setCell (by dsimp only; omega) _).setCell (by dsimp only; omega) _⟩⟩
              · subst h3
                have hbr := num_range P (fun i => (HW.out i).2) out (ns.getD b [])
                have HB := Lib.hid (show _ ∧ _ ∧ _ ∧ _ from ⟨h1, h2, h4, h5⟩)
                have C3 := Lib.hid (fun W => compare_any xn xd x y hr1 hr2 (by rw [h4]; exact hbr.1) (by rw [h5]; exact hbr.2) W)
                obtain ⟨r, hr⟩ : ∃ v, Hid (Shr.cmp xn xd x y = v) := ⟨_, Lib.hid rfl⟩
                rw [hr.out] at C3
                clear h1 h2 h4 h5 hbr
                go_wp2_with fail
                refine (C3.out _).mono ?_
                rintro e w5 ⟨rfl, hb5⟩
                have HX5 := Lib.hid (show _ ∧ _ ∧ _ from ⟨HX.out.2.1.pass hb5, HX.out.2.2.1.pass hb5, below_pass HX.out.2.2.2 HX.out.2.2.2.size hb5⟩)
                have c0 : w5.cell? ⟨gx, 0, none⟩ = some (.int .i64 xn) := HX5.out.1.cell rfl
                have c1 : w5.cell? ⟨gx, 1, none⟩ = some (.int .i64 xd) := HX5.out.1.cell rfl
                have l0 : w5.cell? ⟨lb, 0, none⟩ = some (.int .i64 x) := HX5.out.2.1.cell rfl
                have l1 : w5.cell? ⟨lb, 1, none⟩ = some (.int .i64 y) := HX5.out.2.1.cell rfl
                have f0 := HX5.out.2.1.free 0
                have f1 := HX5.out.2.1.free 1
                have hcm : Hid (Shr.cmp (nN P out ns j) (dN P out ns j) (nN P out ns (Shr.pickN (nN P out ns) (dN P out ns) (empt ls ns) j).toNat) (dN P out ns (Shr.pickN (nN P out ns) (dN P out ns) (empt ls ns) j).toNat) = r) := Lib.hid (by
                  rw [HB.out.2.1, Int.toNat_natCast, ← HB.out.2.2.1, ← HB.out.2.2.2, hNd.out.1, hNd.out.2]
                  exact hr.out)
                clear hb5
                by_cases hr0 : r < 0
                · have hyes := Lib.hid (Shr.pickN_yes hem.out (Or.inr (by rw [hcm.out]; exact hr0)))
                  go_wp2_with fail
                  go_region
                  all_goals
                    go_wp2_with fail
                    go_roundg (m8 - (j + 1))
                    case measure => omega
                    case rel => exact ⟨j + 1, xn, xd, _, by omega, rfl, rfl, by go_num, Lib.hid ⟨Or.inr ⟨j, by omega, hyes.out, by rw [HU.out.1], hNd.out.1.symm, hNd.out.2.symm⟩, (HX5.out.2.1.drew.set 0 _).set 1 _, (HX5.out.2.2.drew.setCell (by dsimp only; omega) _).setCell (by dsimp only; omega) _⟩⟩
                · have hno := Lib.hid (Shr.pickN_no hem.out (by rw [HB.out.2.1]; omega) (by rw [hcm.out]; exact hr0))
                  go_wp2_with fail
                  go_roundg (m8 - (j + 1))
                  case measure => omega
                  case rel => exact ⟨j + 1, x, y, _, by omega, rfl, rfl, by go_num, Lib.hid ⟨Or.inr ⟨b, by have := HB.out.1; omega, hno.out.trans HB.out.2.1, rfl, HB.out.2.2⟩, HX5.out.2⟩⟩
        · obtain rfl : m8 = j := by omega
          obtain ⟨b, xx, l, hb, hpk, hls, hnx⟩ := H.out.2.1.pick (by rw [← hol.out, hnn.out]; exact hlt)
          obtain ⟨u, hu⟩ : ∃ u, Hid (ns.getD b [] = u) := ⟨_, Lib.hid rfl⟩
          rw [hu.out] at hls
          have hptr : v10 = .pointer (some ⟨J u, 0, none⟩) := by
            rcases H2.out.1 with ⟨h1, _⟩ | ⟨b', h1, h2, h3, _⟩
            · rw [HM.out.1, hpk] at h1
              omega
            · rw [HM.out.1, hpk] at h2
              have : b' = b := by omega
              rw [h3, this, hu.out]
          have huk : u ∈ ks := HM.out.2.mem_iff.1 (by rw [← hu.out, getD_str hb]; exact List.getElem_mem hb)
          have hL0 := HT.out.um.l u huk
          rw [hls] at hL0
          obtain ⟨A5, c5, hlv⟩ := hL0.form
          obtain ⟨m5, hm5⟩ : ∃ m, Hid ((xx :: l).length = m) := ⟨_, Lib.hid rfl⟩
          rw [hm5.out] at hlv
          rw [hlv] at hL0
          obtain ⟨g, o, rfl, hm0, hmc, cx, hL⟩ := hL0.cons
          have e4 : wr.cell? ⟨J u, 4, none⟩ = some (.slice (some ⟨g, o, none⟩) m5 c5) := by rw [← hlv]; exact (HT.out.um.j u huk).cell rfl
          have f4 := (HT.out.um.j u huk).free 4
          have hcutT := Lib.hid (HT.out.cut huk hL (by rw [hlv]; simp only [Value.ownBlock]; split <;> rfl))
          have hxu : (P.js xx).user = u ∧ xx < P.n := by
            have := (H.out.2.1.row u (HM.out.2.mem_iff.2 huk)).2 xx
            rw [hls] at this
            have := this.1 (by simp)
            exact ⟨this.2.1, this.1⟩
          have HX := Lib.hid (show _ ∧ _ ∧ _ ∧ _ ∧ _ from ⟨hxu.1, hxu.2, hls, hnx, huk⟩)
          have hm0' : (0 : Int) < (m5 : Int) := by omega
          have hmc' : (m5 : Int) ≤ (c5 : Int) := by omega
          subst hptr
          clear hb hpk hls hnx huk hL0 hlv hL hxu
          go_upto_region 18 with fail
          go_cut [] (fun wx => ∃ r, Hid (TM P.wh w wx b2 M ks J (fun u => now P out u) (updS lv u r) (updS ls u l) (.slice A8 m8 c8) (.slice A9 k c9) ns out))
          case first =>
            have h := hcutT.out
            by_cases hc1 : c5 = 1
            · subst hc1
              rw [if_pos rfl] at h
              obtain rfl : m5 = 1 := by omega
              rw [Nat.sub_self] at h
              have HH := Lib.hid h
              clear h
              go_wp2_with fail
              go_meet
              exact ⟨_, HH⟩
            · rw [if_neg hc1] at h
              have HH := Lib.hid h
              clear h
              go_wp2_with fail
              go_meet
              exact ⟨_, HH⟩
          case rest =>
            obtain ⟨r, HC⟩ := hcut
            clear e4 f4 cx hcutT
            have hjob := HC.out.um.j u HX.out.2.2.2.2
            unfold userCells at hjob
            obtain ⟨bl, off, hAj, hwant⟩ := HJ.out (by have := HX.out.2.1; omega)
            have hat := (hwant xx HX.out.2.1).keep (HC.out.bel.block bl (hwant xx HX.out.2.1).lt)
            have hxn : (xx : Int) < (n : Int) := by have := HX.out.2.1; have := hnn.out; omega
            have hx0 : (0 : Int) ≤ (xx : Int) := by omega
            subst hAj
            have y3 := hat.c3
            have y4 := hat.c4
            have y5 := hat.c5
            have y6 := hat.c6
            have C := Lib.hid (fun W => plus_any (now P out u) (P.js xx).need W)
            unfold vecV at C
            obtain ⟨x0, q0⟩ : ∃ v, Hid (now P out u 0 = v) := ⟨_, Lib.hid rfl⟩
            obtain ⟨x1, q1⟩ : ∃ v, Hid (now P out u 1 = v) := ⟨_, Lib.hid rfl⟩
            obtain ⟨x2, q2⟩ : ∃ v, Hid (now P out u 2 = v) := ⟨_, Lib.hid rfl⟩
            obtain ⟨x3, q3⟩ : ∃ v, Hid (now P out u 3 = v) := ⟨_, Lib.hid rfl⟩
            obtain ⟨n0, p0⟩ : ∃ v, Hid ((P.js xx).need 0 = v) := ⟨_, Lib.hid rfl⟩
            obtain ⟨n1, p1⟩ : ∃ v, Hid ((P.js xx).need 1 = v) := ⟨_, Lib.hid rfl⟩
            obtain ⟨n2, p2⟩ : ∃ v, Hid ((P.js xx).need 2 = v) := ⟨_, Lib.hid rfl⟩
            obtain ⟨n3, p3⟩ : ∃ v, Hid ((P.js xx).need 3 = v) := ⟨_, Lib.hid rfl⟩
            obtain ⟨z0, s0⟩ : ∃ v, Hid (plus (now P out u) (P.js xx).need 0 = v) := ⟨_, Lib.hid rfl⟩
            obtain ⟨z1, s1⟩ : ∃ v, Hid (plus (now P out u) (P.js xx).need 1 = v) := ⟨_, Lib.hid rfl⟩
            obtain ⟨z2, s2⟩ : ∃ v, Hid (plus (now P out u) (P.js xx).need 2 = v) := ⟨_, Lib.hid rfl⟩
            obtain ⟨z3, s3⟩ : ∃ v, Hid (plus (now P out u) (P.js xx).need 3 = v) := ⟨_, Lib.hid rfl⟩
            rw [q0.out, q1.out, q2.out, q3.out, p0.out, p1.out, p2.out, p3.out, s0.out, s1.out, s2.out, s3.out] at C
            rw [q0.out, q1.out, q2.out, q3.out] at hjob
            rw [p0.out] at y3
            rw [p1.out] at y4
            rw [p2.out] at y5
            rw [p3.out] at y6
            have a0 : wc.cell? ⟨J u, 0, none⟩ = some (.int .i64 x0) := hjob.cell rfl
            have a1 : wc.cell? ⟨J u, 1, none⟩ = some (.int .i64 x1) := hjob.cell rfl
            have a2 : wc.cell? ⟨J u, 2, none⟩ = some (.int .i64 x2) := hjob.cell rfl
            have a3 : wc.cell? ⟨J u, 3, none⟩ = some (.int .i64 x3) := hjob.cell rfl
            have HJb := Lib.hid hjob
            clear hjob hat hwant
            go_upto_region 19 with fail
            go_cut [] (fun wx => Hid (TM P.wh w wx b2 M ks J (fun v => now P (out ++ [xx]) v) (updS lv u r) (updS ls u l) (.slice A8 m8 c8) (.slice A9 k c9) ns out))
            case first =>
              go_region_with (go_at_call 28; refine (C.out _).mono ?_; rintro e w3 ⟨rfl, hb⟩; have hJ3 := HJb.out.drew.pass hb; have g0 := hJ3.cell (i := 0) rfl; have g1 := hJ3.cell (i := 1) rfl; have g2 := hJ3.cell (i := 2) rfl; have g3 := hJ3.cell (i := 3) rfl; have h0 := hJ3.free 0; have h1 := hJ3.free 1; have h2 := hJ3.free 2; have h3 := hJ3.free 3)
              all_goals
                have hG := ((HC.out.pass ((Below.refl wc.heap.size wc).drew)).pass hb).give HX.out.2.2.2.2 (plus (now P out u) (P.js xx).need)
                rw [s0.out, s1.out, s2.out, s3.out] at hG
                have HG := Lib.hid (hG.congr (hs' := fun v => now P (out ++ [xx]) v) fun v _ => by
                  show updS (fun u => now P out u) u (plus (now P out u) (P.js xx).need) v = now P (out ++ [xx]) v
                  rw [now_snoc, HX.out.1]
                  by_cases e : v = u
                  · rw [e, updS_same, if_pos rfl]
                  · rw [updS_other _ _ e, if_neg (fun c => e c.symm)])
                clear hG
                go_wp2_with fail
                go_meet
                exact HG
            case rest =>
              have HG := hcut
              have hkm : k ≤ 1000000 := by omega
              have hlt2 := HG.out.lt
              clear a0 a1 a2 a3 y3 y4 y5 y6
              go_upto_region 20 with fail
              go_upto_region 21 with (at_builtin; refine wpList_frpush HG.out.fr (k := xx) hkm hlt2 rfl _ _ rfl rfl rfl rfl ?_)
              intro A6 c6 W' hg6 hF6 hr6
              have HM6 := Lib.hid (HG.out.more hg6 hF6)
              clear hg6 hF6 hr6
              go_wp2_with fail
              go_roundg (n - (k + 1))
              case measure => omega
              case rel => exact ⟨k + 1, A6, c6, updS lv u r, updS ls u l, out ++ [xx], by omega, rfl, by go_num, rfl, Lib.hid ⟨HM6.out, H.out.2.1.step (HM.out.2.mem_iff.2 HX.out.2.2.2.2) HX.out.2.2.1, H.out.2.2.snoc HX.out.2.2.2.1⟩⟩
    · obtain rfl : n = k := by omega
      have HH := Lib.hid (show _ ∧ _ from ⟨H.out.1.fr.mono (by have := H.out.1.ft M (Or.inl rfl); have := H.out.1.um.lo.1; omega : w.heap.size ≤ b2), hol.out⟩)
      go_wp2_with fail
      go_ret
      exact ⟨A9, c9, out, rfl, HH.out.1, ⟨by rw [hnn.out, ← HH.out.2], H.out.2.2⟩, H.out.1.bel⟩
end Go.Proofs.Ytnjgkgnjbmfpfaa
