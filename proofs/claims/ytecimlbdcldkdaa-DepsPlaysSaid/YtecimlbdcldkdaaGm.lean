/- A graph of jobs in memory, and what single stores do to it. -/
import Derived.Test.YtecimlbdcldkdaaMapV
import Derived.Test.YtecimlbdcldkdaaPut
import Derived.Test.YtecimlbdcldkdaaRres
namespace Go.Proofs.Ytecimlbdcldkdaa
open Go.RowKit Go.Maps Dep

/-- where a graph's parts lie: the graph, its map, each job, its map of waits, its row -/
structure GD where
  G : Nat
  M : Nat
  J : Nat → Nat
  B : Nat → Nat
  bk : Nat → Value
/-- what a graph holds: each job's number, whether it is over, well, for which it waits, who waits for it -/
structure GS where
  N : Nat
  id : Nat → Nat
  ov : Nat → Bool
  wl : Nat → Bool
  ws : Nat → List Nat
  bl : Nat → List Nat
def GS.ids (s : GS) : List Nat := (List.range s.N).map s.id
def jobCells (d : GD) (s : GS) (i : Nat) : Array Value := #[.map (some (d.B i)), d.bk i, .bool (s.ov i), .bool (s.wl i)]

structure Gm (w : World) (base : Nat) (d : GD) (s : GS) : Prop where
  g : Bk w d.G 67 #[.map (some d.M)]
  m : ∃ f, MapV w d.M s.ids f ∧ ∀ i, i < s.N → f (s.id i) = .pointer (some ⟨d.J i, 0, none⟩)
  j : ∀ i, i < s.N → Bk w (d.J i) 71 (jobCells d s i)
  b : ∀ i, i < s.N → MapV w (d.B i) (s.ws i) (fun _ => .int .i64 1)
  f : Fam w base s.N d.bk s.bl
  nj : ∀ i, i < s.N → ∀ k, k < s.N → i ≠ k → d.J i ≠ d.J k
  nb : ∀ i, i < s.N → ∀ k, k < s.N → i ≠ k → d.B i ≠ d.B k
  nm : ∀ i, i < s.N → d.B i ≠ d.M
  lo : base ≤ d.G ∧ base ≤ d.M ∧ ∀ i, i < s.N → base ≤ d.J i ∧ base ≤ d.B i
/-- the blocks of a graph -/
def Foot (d : GD) (s : GS) (b : Nat) : Prop := b = d.G ∨ b = d.M ∨ ∃ i, i < s.N ∧ (b = d.J i ∨ b = d.B i ∨ (d.bk i).ownBlock = some b)

theorem mem_ids {s : GS} {k : Nat} : k ∈ s.ids ↔ ∃ i, i < s.N ∧ s.id i = k := by
  unfold GS.ids
  rw [List.mem_map]
  constructor
  · rintro ⟨i, hi, e⟩
    exact ⟨i, List.mem_range.1 hi, e⟩
  · rintro ⟨i, hi, e⟩
    exact ⟨i, List.mem_range.2 hi, e⟩
section
variable {w w' : World} {base : Nat} {d : GD} {s : GS}
theorem Gm.inj (h : Gm w base d s) {i k : Nat} (hi : i < s.N) (hk : k < s.N) (e : s.id i = s.id k) : i = k := by
  obtain ⟨f, hm, hf⟩ := h.m
  have h1 := hf i hi
  rw [e, hf k hk] at h1
  simp only [Value.pointer.injEq, Option.some.injEq, Addr.mk.injEq] at h1
  exact Classical.byContradiction fun c => h.nj k hk i hi (fun e => c e.symm) h1.1
theorem Gm.foot_lt (h : Gm w base d s) : ∀ b, Foot d s b → base ≤ b ∧ b < w.heap.size := by
  rintro b (rfl | rfl | ⟨i, hi, rfl | rfl | e⟩)
  · exact ⟨h.lo.1, h.g.lt⟩
  · obtain ⟨f, hm, _⟩ := h.m
    exact ⟨h.lo.2.1, hm.lt⟩
  · exact ⟨(h.lo.2.2 i hi).1, (h.j i hi).lt⟩
  · exact ⟨(h.lo.2.2 i hi).2, (h.b i hi).lt⟩
  · exact (h.f.1 i hi).lt b e
theorem Gm.keep (h : Gm w base d s) (hk : ∀ b, Foot d s b → w'.heap[b]? = w.heap[b]?) : Gm w' base d s := by
  refine ⟨(hk _ (Or.inl rfl)).trans h.g, ?_, fun i hi => (hk _ (Or.inr (Or.inr ⟨i, hi, Or.inl rfl⟩))).trans (h.j i hi), fun i hi => (h.b i hi).keep (hk _ (Or.inr (Or.inr ⟨i, hi, Or.inr (Or.inl rfl)⟩))), ?_, h.nj, h.nb, h.nm, h.lo⟩
  · obtain ⟨f, hm, hf⟩ := h.m
    exact ⟨f, hm.keep (hk _ (Or.inr (Or.inl rfl))), hf⟩
  · exact ⟨fun k hk2 => (h.f.1 k hk2).keep fun g hg _ => hk g (Or.inr (Or.inr ⟨k, hk2, Or.inr (Or.inr hg)⟩)), h.f.2⟩
theorem Gm.heap (h : Gm w base d s) (hh : w'.heap = w.heap) : Gm w' base d s := h.keep fun b _ => by rw [hh]
theorem Gm.alloc (h : Gm w base d s) (o : Obj) : Gm (w.alloc o) base d s := h.keep fun b hb => Below.heap_alloc w o b (h.foot_lt b hb).2
theorem Gm.grown (h : Gm w base d s) {row : Option Nat} (hg : w.grownBy w' row) (hr : ∀ b, Foot d s b → row ≠ some b) : Gm w' base d s := h.keep fun b hb => hg.block b (h.foot_lt b hb).2 fun c => hr b hb c.symm
theorem Gm.pass (h : Gm w base d s) (hb : Below w.heap.size w w') : Gm w' base d s := h.keep fun b hf => hb.block b (h.foot_lt b hf).2
/-- a row's block is no other part of the graph -/
theorem Gm.own (h : Gm w base d s) {i : Nat} (hi : i < s.N) {g : Nat} (hg : (d.bk i).ownBlock = some g) : g ≠ d.G ∧ g ≠ d.M ∧ (∀ k, k < s.N → g ≠ d.J k) ∧ ∀ k, k < s.N → g ≠ d.B k := by
  have hF := h.f.1 i hi
  rcases hF with ⟨e, _⟩ | ⟨g', o, cap, cs, e, h1, h2, _⟩
  · rw [e] at hg; simp [Value.ownBlock] at hg
  · rw [e] at hg
    simp [Value.ownBlock] at hg
    subst hg
    obtain ⟨f, hm, _⟩ := h.m
    exact ⟨h2.apart h.g (by decide), fun c => hm.notCells h2 c.symm, fun k hk => h2.apart (h.j k hk) (by decide), fun k hk c => (h.b k hk).notCells h2 c.symm⟩
theorem Gm.job (h : Gm w base d s) {i : Nat} (hi : i < s.N) : d.J i ≠ d.G ∧ d.J i ≠ d.M ∧ (∀ k, k < s.N → d.J i ≠ d.B k) ∧ ∀ k, k < s.N → (d.bk k).ownBlock ≠ some (d.J i) := by
  obtain ⟨f, hm, _⟩ := h.m
  exact ⟨(h.j i hi).apart h.g (by decide), fun c => hm.notCells (h.j i hi) c.symm, fun k hk c => (h.b k hk).notCells (h.j i hi) c.symm, fun k hk c => (h.own hk c).2.2.1 i hi rfl⟩
/-- a store into a job's cell -/
theorem Gm.store (h : Gm w base d s) {i : Nat} (hi : i < s.N) (c : Nat) (v : Value) {bk' : Nat → Value} {ov' wl' : Nat → Bool} {bl' : Nat → List Nat} (hf : Fam w base s.N bk' bl')
    (hc : (jobCells d s i).setIfInBounds c v = #[.map (some (d.B i)), bk' i, .bool (ov' i), .bool (wl' i)]) (ho : ∀ k, k < s.N → k ≠ i → bk' k = d.bk k ∧ ov' k = s.ov k ∧ wl' k = s.wl k)
    (hown : ∀ k, k < s.N → (bk' k).ownBlock ≠ some (d.J i)) :
    Gm (w.setCell ⟨d.J i, c, none⟩ v) base { d with bk := bk' } { s with ov := ov', wl := wl', bl := bl' } := by
  have hj := h.job hi
  refine ⟨h.g.far (Ne.symm hj.1) _, ?_, fun k hk => ?_, fun k hk => (h.b k hk).keep (Below.heap_setCell w _ _ _ (Ne.symm (hj.2.2.1 k hk))), ?_, h.nj, h.nb, h.nm, h.lo⟩
  · obtain ⟨f, hm, hf⟩ := h.m
    exact ⟨f, hm.keep (Below.heap_setCell w _ _ _ (Ne.symm hj.2.1)), hf⟩
  · by_cases e : k = i
    · subst e
      have := (h.j k hk).set c v
      rw [hc] at this
      exact this
    · have := (h.j k hk).far (p := ⟨d.J i, c, none⟩) (h.nj k hk i hi e) v
      unfold jobCells at this ⊢
      obtain ⟨e1, e2, e3⟩ := ho k hk e
      show Bk _ (d.J k) _ #[.map (some (d.B k)), bk' k, .bool (ov' k), .bool (wl' k)]
      rw [e1, e2, e3]
      exact this
  · exact ⟨fun k hk => (hf.1 k hk).keep fun g hg _ => Below.heap_setCell w _ _ _ (fun e => hown k hk (by rw [hg, e])), hf.2⟩
theorem Gm.setOv (h : Gm w base d s) {i : Nat} (hi : i < s.N) (x : Bool) : Gm (w.setCell ⟨d.J i, 2, none⟩ (.bool x)) base d { s with ov := upd s.ov i x } :=
  h.store (bk' := d.bk) (wl' := s.wl) (bl' := s.bl) hi 2 _ h.f (by unfold jobCells upd; rw [if_pos rfl]; rfl) (fun k _ e => ⟨rfl, upd_other _ _ e, rfl⟩) (h.job hi).2.2.2
theorem Gm.setWl (h : Gm w base d s) {i : Nat} (hi : i < s.N) (x : Bool) : Gm (w.setCell ⟨d.J i, 3, none⟩ (.bool x)) base d { s with wl := upd s.wl i x } :=
  h.store (bk' := d.bk) (ov' := s.ov) (bl' := s.bl) hi 3 _ h.f (by unfold jobCells upd; rw [if_pos rfl]; rfl) (fun k _ e => ⟨rfl, rfl, upd_other _ _ e⟩) (h.job hi).2.2.2
/-- a row that grows, and is stored -/
theorem Gm.push (h : Gm w base d s) {i : Nat} (hi : i < s.N) {r : Value} {l : List Nat} (hg : w.grownBy w' (d.bk i).ownBlock) (hF : FR w' base r l) (hr : Fresh w (d.bk i) r) :
    w'.cell? ⟨d.J i, 1, none⟩ = some (d.bk i) ∧ w'.frozen? ⟨d.J i, 1, none⟩ = false ∧ Gm (w'.setCell ⟨d.J i, 1, none⟩ r) base { d with bk := upd d.bk i r } { s with bl := upd s.bl i l } := by
  have hJ : Bk w' (d.J i) 71 (jobCells d s i) := (hg.block _ (h.j i hi).lt fun c => (h.own hi c.symm).2.2.1 i hi rfl).trans (h.j i hi)
  have hfam := h.f.step hi hg hF hr
  refine ⟨hJ.cell rfl, hJ.free 1, ?_⟩
  have hj := h.job hi
  have hne : ∀ k, k < s.N → (upd d.bk i r k).ownBlock ≠ some (d.J i) := fun k hk => by
    by_cases e : k = i
    · subst e
      rw [upd_same]
      intro c
      rcases hr _ c with c2 | c2
      · exact hj.2.2.2 k hk c2
      · have := (h.j k hk).lt; omega
    · rw [upd_other _ _ e]; exact hj.2.2.2 k hk
  have hG' : Bk w' d.G 67 #[.map (some d.M)] := (hg.block _ h.g.lt fun c => (h.own hi c.symm).1 rfl).trans h.g
  refine ⟨hG'.far (Ne.symm hj.1) _, ?_, fun k hk => ?_, fun k hk => ((h.b k hk).keep (hg.block _ (h.b k hk).lt fun c => (h.own hi c.symm).2.2.2 k hk rfl)).keep (Below.heap_setCell w' _ _ _ (Ne.symm (hj.2.2.1 k hk))), ?_, h.nj, h.nb, h.nm, h.lo⟩
  · obtain ⟨f, hm, hf⟩ := h.m
    exact ⟨f, (hm.keep (hg.block _ hm.lt fun c => (h.own hi c.symm).2.1 rfl)).keep (Below.heap_setCell w' _ _ _ (Ne.symm hj.2.1)), hf⟩
  · by_cases e : k = i
    · subst e
      have := hJ.set 1 r
      unfold jobCells at this ⊢
      show Bk _ (d.J k) _ #[.map (some (d.B k)), upd d.bk k r k, .bool (s.ov k), .bool (s.wl k)]
      rw [upd_same]
      exact this
    · have hk2 : Bk w' (d.J k) 71 (jobCells d s k) := (hg.block _ (h.j k hk).lt fun c => (h.own hi c.symm).2.2.1 k hk rfl).trans (h.j k hk)
      have := hk2.far (p := ⟨d.J i, 1, none⟩) (h.nj k hk i hi e) r
      unfold jobCells at this ⊢
      show Bk _ (d.J k) _ #[.map (some (d.B k)), upd d.bk i r k, .bool (s.ov k), .bool (s.wl k)]
      rw [upd_other _ _ e]
      exact this
  · exact ⟨fun k hk => (hfam.1 k hk).keep fun g hg2 _ => Below.heap_setCell w' _ _ _ (fun e => hne k hk (by rw [hg2, e])), hfam.2⟩
/-- a job's map of waits has turned -/
theorem Gm.turn (h : Gm w base d s) {i : Nat} (hi : i < s.N) {l : List Nat} (hg : w.grownBy w' (some (d.B i))) (hm : MapV w' (d.B i) l (fun _ => .int .i64 1)) : Gm w' base d { s with ws := upd s.ws i l } := by
  have hB := fun b (hb : Foot d s b) (hne : b ≠ d.B i) => hg.block b (h.foot_lt b hb).2 (fun c => hne (by simpa using c))
  have hGi : d.G ≠ d.B i := fun c => (h.b i hi).notCells h.g c.symm
  refine ⟨(hB _ (Or.inl rfl) hGi).trans h.g, ?_, fun k hk => (hB _ (Or.inr (Or.inr ⟨k, hk, Or.inl rfl⟩)) ((h.job hk).2.2.1 i hi)).trans (h.j k hk), fun k hk => ?_, ?_, h.nj, h.nb, h.nm, h.lo⟩
  · obtain ⟨f, hm2, hf⟩ := h.m
    exact ⟨f, hm2.keep (hB _ (Or.inr (Or.inl rfl)) (Ne.symm (h.nm i hi))), hf⟩
  · by_cases e : k = i
    · subst e
      show MapV w' (d.B k) (upd s.ws k l k) _
      rw [upd_same]; exact hm
    · show MapV w' (d.B k) (upd s.ws i l k) _
      rw [upd_other _ _ e]
      exact (h.b k hk).keep (hB _ (Or.inr (Or.inr ⟨k, hk, Or.inr (Or.inl rfl)⟩)) (h.nb k hk i hi e))
  · exact ⟨fun k hk => (h.f.1 k hk).keep fun g hg2 _ => hB g (Or.inr (Or.inr ⟨k, hk, Or.inr (Or.inr hg2)⟩)) ((h.own hk hg2).2.2.2 i hi), h.f.2⟩
/-- one job more -/
theorem Gm.add (h : Gm w base d s) {k jn bn : Nat} {ovn : Bool} {wsn : List Nat} (hj : Bk w jn 71 #[.map (some bn), .slice none 0 0, .bool ovn, .bool false]) (hb : MapV w bn wsn (fun _ => .int .i64 1))
    (hjf : ¬ Foot d s jn) (hbf : ¬ Foot d s bn) (hlo : base ≤ jn ∧ base ≤ bn) (hg : w.grownBy w' (some d.M)) (hM : ∃ f, MapV w' d.M (s.ids ++ [k]) f ∧ (∀ i, i < s.N → f (s.id i) = .pointer (some ⟨d.J i, 0, none⟩)) ∧ f k = .pointer (some ⟨jn, 0, none⟩)) :
    Gm w' base { d with J := upd d.J s.N jn, B := upd d.B s.N bn, bk := upd d.bk s.N (.slice none 0 0) } { N := s.N + 1, id := upd s.id s.N k, ov := upd s.ov s.N ovn, wl := upd s.wl s.N false, ws := upd s.ws s.N wsn, bl := upd s.bl s.N [] } := by

  obtain ⟨f0, hm0, _⟩ := h.m
  have hkeep : ∀ b, b < w.heap.size → b ≠ d.M → w'.heap[b]? = w.heap[b]? := fun b hb hne => hg.block b hb (fun c => hne (by simpa using c))
  have hMj : jn ≠ d.M := fun e => hjf (Or.inr (Or.inl e))
  have hMb : bn ≠ d.M := fun e => hbf (Or.inr (Or.inl e))
  have hbj : bn ≠ jn := fun e => hb.notCells hj e
  refine ⟨(hkeep _ h.g.lt (fun e => hm0.notCells h.g e.symm)).trans h.g, ?_, fun i hi => ?_, fun i hi => ?_, ?_, fun i hi k hk hne => ?_, fun i hi k hk hne => ?_, fun i hi => ?_, h.lo.1, h.lo.2.1, fun i hi => ?_⟩
  · obtain ⟨f, hf1, hf2, hf3⟩ := hM
    refine ⟨f, ?_, fun i hi => ?_⟩
    · have e : GS.ids { N := s.N + 1, id := upd s.id s.N k, ov := upd s.ov s.N ovn, wl := upd s.wl s.N false, ws := upd s.ws s.N wsn, bl := upd s.bl s.N [] } = s.ids ++ [k] := by
        unfold GS.ids
        show (List.range (s.N + 1)).map (upd s.id s.N k) = _
        rw [List.range_succ, List.map_append]
        congr 1
        · exact List.map_congr_left fun i hi => upd_other _ _ (by rw [List.mem_range] at hi; omega)
        · simp [upd_same]
      rw [e]; exact hf1
    · show f (upd s.id s.N k i) = .pointer (some ⟨upd d.J s.N jn i, 0, none⟩)
      by_cases e : i = s.N
      · rw [e, upd_same, upd_same]; exact hf3
      · rw [upd_other _ _ e, upd_other _ _ e]
        exact hf2 i (by have : i < s.N + 1 := hi; omega)
  · have hi : i < s.N + 1 := hi
    by_cases e : i = s.N
    · subst e
      show Bk w' (upd d.J s.N jn s.N) _ #[.map (some (upd d.B s.N bn s.N)), upd d.bk s.N _ s.N, .bool (upd s.ov s.N ovn s.N), .bool (upd s.wl s.N false s.N)]
      simp only [upd_same]
      exact (hkeep _ hj.lt hMj).trans hj
    · show Bk w' (upd d.J s.N jn i) _ #[.map (some (upd d.B s.N bn i)), upd d.bk s.N _ i, .bool (upd s.ov s.N ovn i), .bool (upd s.wl s.N false i)]
      simp only [upd_other _ _ e]
      have hi2 : i < s.N := by omega
      exact (hkeep _ (h.j i hi2).lt (h.job hi2).2.1).trans (h.j i hi2)
  · have hi : i < s.N + 1 := hi
    by_cases e : i = s.N
    · subst e
      show MapV w' (upd d.B s.N bn s.N) (upd s.ws s.N wsn s.N) _
      simp only [upd_same]
      exact hb.keep (hkeep _ hb.lt hMb)
    · show MapV w' (upd d.B s.N bn i) (upd s.ws s.N wsn i) _
      simp only [upd_other _ _ e]
      have hi2 : i < s.N := by omega
      exact (h.b i hi2).keep (hkeep _ (h.b i hi2).lt (h.nm i hi2))
  · refine ⟨fun i hi => ?_, fun i hi k2 hk2 hne g hg1 => ?_⟩
    · have hi : i < s.N + 1 := hi
      by_cases e : i = s.N
      · show FR w' base (upd d.bk s.N _ i) (upd s.bl s.N [] i)
        rw [e, upd_same, upd_same]; exact Or.inl ⟨rfl, rfl⟩
      · show FR w' base (upd d.bk s.N _ i) (upd s.bl s.N [] i)
        rw [upd_other _ _ e, upd_other _ _ e]
        have hi2 : i < s.N := by omega
        exact (h.f.1 i hi2).keep fun g hg2 hl => hkeep g hl (h.own hi2 hg2).2.1
    · have hi : i < s.N + 1 := hi
      have hk2 : k2 < s.N + 1 := hk2
      change (upd d.bk s.N (.slice none 0 0) i).ownBlock = some g at hg1
      show (upd d.bk s.N (.slice none 0 0) k2).ownBlock ≠ some g
      by_cases e : i = s.N
      · rw [e, upd_same] at hg1; simp [Value.ownBlock] at hg1
      · rw [upd_other _ _ e] at hg1
        by_cases e2 : k2 = s.N
        · rw [e2, upd_same]; simp [Value.ownBlock]
        · rw [upd_other _ _ e2]
          exact h.f.2 i (by omega) k2 (by omega) hne g hg1
  · have hi : i < s.N + 1 := hi
    have hk : k < s.N + 1 := hk
    show upd d.J s.N jn i ≠ upd d.J s.N jn k
    by_cases e : i = s.N
    · rw [e, upd_same, upd_other _ _ (by omega)]
      exact fun c => hjf (Or.inr (Or.inr ⟨k, by omega, Or.inl c⟩))
    · rw [upd_other _ _ e]
      by_cases e2 : k = s.N
      · rw [e2, upd_same]
        exact fun c => hjf (Or.inr (Or.inr ⟨i, by omega, Or.inl c.symm⟩))
      · rw [upd_other _ _ e2]; exact h.nj i (by omega) k (by omega) hne
  · have hi : i < s.N + 1 := hi
    have hk : k < s.N + 1 := hk
    show upd d.B s.N bn i ≠ upd d.B s.N bn k
    by_cases e : i = s.N
    · rw [e, upd_same, upd_other _ _ (by omega)]
      exact fun c => hbf (Or.inr (Or.inr ⟨k, by omega, Or.inr (Or.inl c)⟩))
    · rw [upd_other _ _ e]
      by_cases e2 : k = s.N
      · rw [e2, upd_same]
        exact fun c => hbf (Or.inr (Or.inr ⟨i, by omega, Or.inr (Or.inl c.symm)⟩))
      · rw [upd_other _ _ e2]; exact h.nb i (by omega) k (by omega) hne
  · have hi : i < s.N + 1 := hi
    show upd d.B s.N bn i ≠ d.M
    by_cases e : i = s.N
    · rw [e, upd_same]; exact hMb
    · rw [upd_other _ _ e]; exact h.nm i (by omega)
  · have hi : i < s.N + 1 := hi
    show base ≤ upd d.J s.N jn i ∧ base ≤ upd d.B s.N bn i
    by_cases e : i = s.N
    · rw [e, upd_same, upd_same]; exact hlo
    · rw [upd_other _ _ e, upd_other _ _ e]; exact h.lo.2.2 i (by omega)
end
end Go.Proofs.Ytecimlbdcldkdaa
