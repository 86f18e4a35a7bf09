/- What the loops of order.users do to its memory. -/
import Derived.Test.YtnjgkgnjbmfpfaaUcl
import Derived.Test.YtnjgkgnjbmfpfaaSu
namespace Go.Proofs.Ytnjgkgnjbmfpfaa
open Go.RowKit Go.Maps Go.Sort Ot

/-- the places of a user's jobs among the first -/
def plc (js : Nat → JD) (u : Str) (i : Nat) : List Nat := (List.range i).filter fun x => decide ((js x).user = u)
theorem plc_mem {js : Nat → JD} {u : Str} {i x : Nat} : x ∈ plc js u i ↔ x < i ∧ (js x).user = u := by
  unfold plc; rw [List.mem_filter, List.mem_range]; simp
theorem plc_succ (js : Nat → JD) (u : Str) (i : Nat) : plc js u (i + 1) = if (js i).user = u then plc js u i ++ [i] else plc js u i := by
  unfold plc
  rw [List.range_succ, List.filter_append]
  by_cases h : (js i).user = u
  · rw [if_pos h]; simp [h]
  · rw [if_neg h]; simp [h]
theorem plc_len (js : Nat → JD) (u : Str) (i : Nat) : (plc js u i).length ≤ i := by
  unfold plc
  exact Nat.le_trans (List.length_filter_le _ _) (by simp)
theorem plc_rise (js : Nat → JD) (u : Str) (i : Nat) : (plc js u i).Pairwise (· < ·) := by
  unfold plc
  exact List.Pairwise.filter _ List.pairwise_lt_range
theorem updS_id {α : Type} (f : Str → α) (k : Str) : updS f k (f k) = f := by
  funext x; unfold updS; split
  · rename_i h; rw [h]
  · rfl
section
variable {w w' : World} {base M : Nat} {ks : List Str} {J : Str → Nat} {hs : Str → Nat → Int} {lv : Str → Value} {ls : Str → List Nat}
/-- a user's row grows, and is stored -/
theorem UM.push (h : UM FR w base M ks J hs lv ls) {k : Str} (hk : k ∈ ks) {r : Value} {l : List Nat} (hg : w.grownBy w' (lv k).ownBlock) (hF : FR w' base r l) (hr : Fresh w (lv k) r) :
    w'.cell? ⟨J k, 4, none⟩ = some (lv k) ∧ w'.frozen? ⟨J k, 4, none⟩ = false ∧ UM FR (w'.setCell ⟨J k, 4, none⟩ r) base M ks J hs (updS lv k r) (updS ls k l) := by
  have hJ : Bk w' (J k) 71 (userCells (hs k) (lv k)) := (hg.block _ (h.j k hk).lt fun c => (h.own rowyF hk c.symm).2 k hk rfl).trans (h.j k hk)
  refine ⟨hJ.cell rfl, hJ.free 4, ?_⟩
  have hrJ : ∀ g, r.ownBlock = some g → g ≠ J k := fun g hg1 e => by
    rcases hr g hg1 with c | c
    · exact (h.own rowyF hk c).2 k hk e
    · have := (h.j k hk).lt; omega
  have := h.turn rowyF (w' := w'.setCell ⟨J k, 4, none⟩ r) hk (hs' := hs k) (r := r) (l := l) (fun b hb h1 h2 => (Below.heap_setCell w' _ _ b h1).trans (hg.block b hb fun c => h2 c.symm)) (hJ.set 4 r)
    (hF.keep fun g hg1 _ => Below.heap_setCell w' _ _ g (hrJ g hg1)) hr
  rw [updS_id] at this
  exact this
/-- what a user has is stored -/
theorem UM.give {F : World → Nat → Value → List Nat → Prop} (hF : Rowy F) (h : UM F w base M ks J hs lv ls) {k : Str} (hk : k ∈ ks) (v : Nat → Int) :
    UM F ((((w.setCell ⟨J k, 0, none⟩ (.int .i64 (v 0))).setCell ⟨J k, 1, none⟩ (.int .i64 (v 1))).setCell ⟨J k, 2, none⟩ (.int .i64 (v 2))).setCell ⟨J k, 3, none⟩ (.int .i64 (v 3))) base M ks J (updS hs k v) lv ls := by
  have hJ := ((((h.j k hk).set 0 (.int .i64 (v 0))).set 1 (.int .i64 (v 1))).set 2 (.int .i64 (v 2))).set 3 (.int .i64 (v 3))
  have hfar : ∀ b, b ≠ J k → ((((w.setCell ⟨J k, 0, none⟩ (.int .i64 (v 0))).setCell ⟨J k, 1, none⟩ (.int .i64 (v 1))).setCell ⟨J k, 2, none⟩ (.int .i64 (v 2))).setCell ⟨J k, 3, none⟩ (.int .i64 (v 3))).heap[b]? = w.heap[b]? := fun b hb =>
    (Below.heap_setCell _ _ _ b hb).trans ((Below.heap_setCell _ _ _ b hb).trans ((Below.heap_setCell _ _ _ b hb).trans (Below.heap_setCell _ _ _ b hb)))
  have := h.turn hF (w' := (((w.setCell ⟨J k, 0, none⟩ (.int .i64 (v 0))).setCell ⟨J k, 1, none⟩ (.int .i64 (v 1))).setCell ⟨J k, 2, none⟩ (.int .i64 (v 2))).setCell ⟨J k, 3, none⟩ (.int .i64 (v 3))) hk (hs' := v) (r := lv k) (l := ls k)
    (fun b _ h1 _ => hfar b h1) hJ (hF.keep (h.l k hk) fun g hg _ => hfar g fun e => (h.own hF hk hg).2 k hk e) (fun g hg => Or.inl hg)
  rw [updS_id, updS_id] at this
  exact this
theorem UM.congr {F : World → Nat → Value → List Nat → Prop} (h : UM F w base M ks J hs lv ls) {hs' : Str → Nat → Int} {ls' : Str → List Nat} (h1 : ∀ k, k ∈ ks → hs k = hs' k) (h2 : ∀ k, k ∈ ks → ls k = ls' k) : UM F w base M ks J hs' lv ls' :=
  ⟨h.m, fun k hk => by rw [← h1 k hk]; exact h.j k hk, fun k hk => by rw [← h2 k hk]; exact h.l k hk, h.nj, h.nl, h.lo⟩
theorem UM.lr (h : UM FR w base M ks J hs lv ls) : UM LR w base M ks J hs lv ls := ⟨h.m, h.j, fun k hk => (h.l k hk).lr, h.nj, h.nl, h.lo⟩
end
theorem zeroU (w : World) : (zeroValue 69).run Try.prog w = .ok (.pointer none) w := by kernel_rfl
/-- all but one block are as they were -/
def KB (w0 : World) (blk : Nat) (W : World) : Prop := w0.heap.size ≤ W.heap.size ∧ ∀ b, b ≠ blk → b < w0.heap.size → W.heap[b]? = w0.heap[b]?
theorem KB.refl (w : World) (blk : Nat) : KB w blk w := ⟨Nat.le_refl _, fun _ _ _ => rfl⟩
theorem KB.keep {w0 W W' : World} {blk : Nat} (h : KB w0 blk W) (hb : ∀ b, b ≠ blk → b < W.heap.size → W'.heap[b]? = W.heap[b]?) (hs : W.heap.size ≤ W'.heap.size) : KB w0 blk W' :=
  ⟨Nat.le_trans h.1 hs, fun b hne hlt => (hb b hne (Nat.lt_of_lt_of_le hlt h.1)).trans (h.2 b hne hlt)⟩
def nat1 (l : List Nat) : Nat → Int := fun i => ((l.getD i 0 : Nat) : Int)
theorem nat1_at {l : List Nat} {i : Nat} (h : i < l.length) : nat1 l i = ((l[i] : Nat) : Int) := by
  unfold nat1; rw [List.getD_eq_getElem?_getD, List.getElem?_eq_getElem h]; rfl
theorem nodup_sub_len {α : Type} [BEq α] [LawfulBEq α] : ∀ {l l2 : List α}, l.Nodup → (∀ x ∈ l, x ∈ l2) → l.length ≤ l2.length
  | [], _, _, _ => by simp
  | x :: l, l2, hn, h => by
    rw [List.nodup_cons] at hn
    have hx := h x (by simp)
    have h1 := nodup_sub_len (l2 := l2.erase x) hn.2 fun y hy => (List.mem_erase_of_ne (fun e => hn.1 (by rw [← e]; exact hy))).2 (h y (by simp [hy]))
    rw [List.length_erase_of_mem hx] at h1
    have : 0 < l2.length := List.length_pos_of_mem hx
    simp only [List.length_cons]
    omega
theorem LR.mono {w : World} {b b' : Nat} {v : Value} {l : List Nat} (h : LR w b v l) (hb : b' ≤ b) : LR w b' v l := by
  rcases h with h | ⟨g, o, cap, cs, h1, h2, h3⟩
  · exact Or.inl h
  · exact Or.inr ⟨g, o, cap, cs, h1, Nat.le_trans hb h2, h3⟩
theorem UM.mono {w : World} {base base' M : Nat} {ks : List Str} {J : Str → Nat} {hs : Str → Nat → Int} {lv : Str → Value} {ls : Str → List Nat} (h : UM LR w base M ks J hs lv ls) (hb : base' ≤ base) : UM LR w base' M ks J hs lv ls :=
  ⟨h.m, h.j, fun k hk => (h.l k hk).mono hb, h.nj, h.nl, Nat.le_trans hb h.lo.1, fun k hk => Nat.le_trans hb (h.lo.2 k hk)⟩
/-- a user's row is sorted -/
theorem sort_row {w1 : World} {base M : Nat} {ks : List Str} {J : Str → Nat} {hs : Str → Nat → Int} {lv : Str → Value} {ls : Str → List Nat} {js : Nat → JD} {n k2 g3 : Nat} {A2 : Option Addr} (hU : UM LR w1 base M ks J hs lv ls) {k : Str} (hk : k ∈ ks)
    (hl : ls k = plc js k n) (hne : ls k ≠ []) (hn : n ≤ 1000) (h3 : Bk w1 g3 46 #[.slice A2 n k2]) (hg3 : g3 < base) (hW : ∀ W, (∀ b, b < base → W.heap[b]? = w1.heap[b]?) → WantsIn W A2 n js) :
    ∃ g o m cap, lv k = .slice (some ⟨g, o, none⟩) m cap ∧ Calls Try.prog 41 #[.slice (some ⟨g, o, none⟩) m cap, .func (.func 50) #[] #[.pointer (some ⟨g3, 0, none⟩)]] w1 fun e w' => e = .returned (.tuple #[]) ∧
      ∃ l', UM LR w' base M ks J hs lv (updS ls k l') ∧ l'.Pairwise (fun (x y : Nat) => prJ js (x : Int) (y : Int)) ∧ (∀ x, x ∈ l' ↔ x ∈ ls k) ∧ KB w1 g w' ∧ Below base w1 w' ∧ base ≤ g ∧ g < w1.heap.size := by
  rcases hU.l k hk with ⟨_, h⟩ | ⟨g, o, cap, cs, hv, h1, h2, h4, h5⟩
  · exact absurd h hne
  have hm : (ls k).length ≤ 1000 := by rw [hl]; exact Nat.le_trans (plc_len js k n) hn
  refine ⟨g, o, (ls k).length, cap, hv, ?_⟩
  have E : Env Try.prog 50 #[.pointer (some ⟨g3, 0, none⟩)] (cmpJ js) (Shr.okI n) (KB w1 g) w1 base g := by
    refine ⟨enters_of Try.func50 (by kernel_rfl) rfl, fun W W' hK hb hs => hK.keep hb hs, fun x y W hK hx hy => ?_, h1, by have := hU.m.lt; have := hU.lo.1; omega⟩
    refine users1_any g3 A2 n k2 js x y W ⟨?_, ?_⟩ hx hy
    · exact (hK.2 g3 (by omega) h3.lt).trans h3
    · exact hW W fun b hb => hK.2 b (by omega) (by have := hU.m.lt; have := hU.lo.1; omega)
  have S : SS (KB w1 g) w1 base g o (ls k).length 3 (nat1 (ls k)) w1 := by
    refine ⟨⟨cs, h2, fun i hi => ?_⟩, KB.refl _ _, Below.refl _ _⟩
    rw [nat1_at hi]
    exact h5 i _ (List.getElem?_eq_getElem hi)
  have hall : Srt.All (Shr.okI n) (ls k).length (nat1 (ls k)) := fun i hi => by
    refine ⟨(ls k)[i], ?_, by rw [nat1_at hi]⟩
    have hmem : ∀ x, x ∈ ls k → x < n := fun x hx => by rw [hl] at hx; exact (plc_mem.1 hx).1
    exact hmem _ (List.getElem_mem hi)
  have hrise : Srt.Rise 0 (ls k).length (nat1 (ls k)) := fun p q _ hpq hq => by
    have := plc_rise js k n
    rw [← hl, List.pairwise_iff_getElem] at this
    have := this p q (by omega) hq hpq
    rw [nat1_at (by omega), nat1_at hq]
    omega
  refine (sortStable_any E (ordJ js n) cap (by omega) _ hall hrise w1 S).mono ?_
  rintro e w' ⟨rfl, d', hsd, hval, hS⟩
  refine ⟨rfl, (List.range (ls k).length).map fun i => (d' i).toNat, ?_⟩
  have hnat : ∀ i, i < (ls k).length → ∃ j, ∃ hj : j < (ls k).length, d' i = (((ls k)[j] : Nat) : Int) := fun i hi => by
    obtain ⟨j, _, hj, e⟩ := hval.1 i (by omega) hi
    exact ⟨j, hj, by rw [e, nat1_at hj]⟩
  obtain ⟨cs', hb', hc'⟩ := hS.row
  have hL : LR w' base (.slice (some ⟨g, o, none⟩) (ls k).length cap) ((List.range (ls k).length).map fun i => (d' i).toNat) := by
    refine Or.inr ⟨g, o, cap, cs', by simp, h1, hb', by simpa using h4, fun j x hx => ?_⟩
    rw [List.getElem?_map] at hx
    by_cases hj : j < (ls k).length
    · rw [List.getElem?_range hj] at hx
      simp at hx
      obtain ⟨j', hj', e⟩ := hnat j hj
      rw [hc' j hj, ← hx, e]
      simp
    · rw [List.getElem?_eq_none (by simpa using hj)] at hx
      simp at hx
  have hT := hU.turn rowyL (w' := w') hk (hs' := hs k) (r := lv k) (l := (List.range (ls k).length).map fun i => (d' i).toNat)
    (fun b hb _ h2 => hS.k.2 b (fun c => h2 (by rw [hv, c]; rfl)) hb) ((hS.k.2 (J k) (fun c => (hU.own rowyL hk (g := g) (by rw [hv]; rfl)).2 k hk c.symm) (hU.j k hk).lt).trans (hU.j k hk)) (by rw [hv]; exact hL) (fun g hg => Or.inl hg)
  rw [updS_id, updS_id] at hT
  refine ⟨hT, ?_, fun x => ?_, hS.k, hS.bel, h1, h2.lt⟩
  · rw [List.pairwise_map]
    refine List.Pairwise.imp_of_mem ?_ (List.pairwise_lt_range (n := (ls k).length))
    intro p q hp hq hpq
    rw [List.mem_range] at hp hq
    obtain ⟨p', hp', e1⟩ := hnat p hp
    obtain ⟨q', hq', e2⟩ := hnat q hq
    have := hsd p q (by omega) hpq hq
    rw [e1, e2] at this ⊢
    simpa using this
  · rw [List.mem_map]
    constructor
    · rintro ⟨i, hi, rfl⟩
      rw [List.mem_range] at hi
      obtain ⟨j, hj, e⟩ := hnat i hi
      rw [e]
      simp
    · intro hx
      obtain ⟨i, hi, e⟩ := List.getElem_of_mem hx
      obtain ⟨j, _, hj, e2⟩ := hval.2 i (by omega) hi
      refine ⟨j, List.mem_range.2 hj, ?_⟩
      rw [← e2]
      rw [nat1_at hi, e]
      simp
end Go.Proofs.Ytnjgkgnjbmfpfaa
