/- The memory of order.users: a map of users, each with what it has and the places of its jobs. -/
import Derived.Test.YtnjgkgnjbmfpfaaOrm
import Derived.Test.YtnjgkgnjbmfpfaaMapS
import Derived.Test.YtnjgkgnjbmfpfaaFr
namespace Go.Proofs.Ytnjgkgnjbmfpfaa
open Go.RowKit Go.Maps Go.Sort Ot

/-- a row of places that is read alone -/
def LR (w : World) (base : Nat) (v : Value) (l : List Nat) : Prop :=
  (v = .slice none 0 0 ∧ l = []) ∨ ∃ g o cap cs, v = .slice (some ⟨g, o, none⟩) l.length cap ∧ base ≤ g ∧ Bk w g 3 cs ∧ l.length ≤ cap ∧ ∀ (j x : Nat), l[j]? = some x → cs[o + j]? = some (.int .i64 (x : Int))
theorem FR.lr {w : World} {base : Nat} {v : Value} {l : List Nat} (h : FR w base v l) : LR w base v l := by
  rcases h with h | ⟨g, o, cap, cs, h1, h2, h3, h4, _, _, h5⟩
  · exact Or.inl h
  · exact Or.inr ⟨g, o, cap, cs, h1, h2, h3, h4, h5⟩
section
variable {w w' : World} {base : Nat} {v : Value} {l : List Nat}
theorem LR.keep (h : LR w base v l) (hb : ∀ g, v.ownBlock = some g → g < w.heap.size → w'.heap[g]? = w.heap[g]?) : LR w' base v l := by
  rcases h with h | ⟨g, o, cap, cs, rfl, h1, h2, h3⟩
  · exact Or.inl h
  · exact Or.inr ⟨g, o, cap, cs, rfl, h1, (hb g rfl h2.lt).trans h2, h3⟩
theorem LR.lt (h : LR w base v l) : ∀ g, v.ownBlock = some g → base ≤ g ∧ g < w.heap.size := by
  intro g hg
  rcases h with ⟨rfl, _⟩ | ⟨g', o, cap, cs, rfl, h1, h2, _⟩
  · simp [Value.ownBlock] at hg
  · simp [Value.ownBlock] at hg
    subst hg
    exact ⟨h1, h2.lt⟩
theorem LR.form (h : LR w base v l) : ∃ A cap, v = .slice A l.length cap := by
  rcases h with ⟨rfl, rfl⟩ | ⟨g, o, cap, cs, rfl, _⟩
  · exact ⟨none, 0, rfl⟩
  · exact ⟨_, _, rfl⟩
theorem LR.ints (h : LR w base v l) {g : Nat} (hg : v.ownBlock = some g) : ∃ cs, Bk w g 3 cs := by
  rcases h with ⟨rfl, _⟩ | ⟨g', o, cap, cs, rfl, h1, h2, _⟩
  · simp [Value.ownBlock] at hg
  · simp [Value.ownBlock] at hg
    subst hg
    exact ⟨cs, h2⟩
theorem LR.cons {A : Option Addr} {m cap x : Nat} (h : LR w base (.slice A m cap) (x :: l)) : ∃ g o, A = some ⟨g, o, none⟩ ∧ 0 < m ∧ m ≤ cap ∧ w.cell? ⟨g, o, none⟩ = some (.int .i64 (x : Int)) ∧ LR w base (.slice (some (if cap = 1 then ⟨g, o, none⟩ else ⟨g, o + 1, none⟩)) (m - 1) (cap - 1)) l := by
  rcases h with ⟨_, h⟩ | ⟨g, o, cap', cs, e, h1, h2, h3, h4⟩
  · cases h
  · simp only [Value.slice.injEq] at e
    obtain ⟨rfl, rfl, rfl⟩ := e
    simp only [List.length_cons] at h3 ⊢
    refine ⟨g, o, rfl, by omega, h3, h2.cell (by have := h4 0 x rfl; rwa [Nat.add_zero] at this), ?_⟩
    by_cases hc : cap = 1
    · subst hc
      obtain rfl : l = [] := List.eq_nil_of_length_eq_zero (by omega)
      exact Or.inr ⟨g, o, 0, cs, by simp, h1, h2, by simp, fun j y hy => by cases hy⟩
    · refine Or.inr ⟨g, o + 1, cap - 1, cs, by rw [if_neg hc]; simp, h1, h2, by omega, fun j y hy => ?_⟩
      rw [Nat.add_assoc, Nat.add_comm 1 j]
      exact h4 (j + 1) y (by rw [List.getElem?_cons_succ]; exact hy)
end

/-- a user's cells -/
def userCells (h : Nat → Int) (v : Value) : Array Value := #[.int .i64 (h 0), .int .i64 (h 1), .int .i64 (h 2), .int .i64 (h 3), v]
/-- the users ks in the map M: where each lies, what it has, its row -/
structure UM (F : World → Nat → Value → List Nat → Prop) (w : World) (base M : Nat) (ks : List Str) (J : Str → Nat) (hs : Str → Nat → Int) (lv : Str → Value) (ls : Str → List Nat) : Prop where
  m : MapS w M ks (fun k => .pointer (some ⟨J k, 0, none⟩))
  j : ∀ k, k ∈ ks → Bk w (J k) 71 (userCells (hs k) (lv k))
  l : ∀ k, k ∈ ks → F w base (lv k) (ls k)
  nj : ∀ k, k ∈ ks → ∀ k', k' ∈ ks → k ≠ k' → J k ≠ J k'
  nl : ∀ k, k ∈ ks → ∀ k', k' ∈ ks → k ≠ k' → ∀ g, (lv k).ownBlock = some g → (lv k').ownBlock ≠ some g
  lo : base ≤ M ∧ ∀ k, k ∈ ks → base ≤ J k
/-- what is asked of the rows' reading -/
structure Rowy (F : World → Nat → Value → List Nat → Prop) : Prop where
  keep : ∀ {w w' base v l}, F w base v l → (∀ g, v.ownBlock = some g → g < w.heap.size → w'.heap[g]? = w.heap[g]?) → F w' base v l
  lt : ∀ {w base v l}, F w base v l → ∀ g, v.ownBlock = some g → base ≤ g ∧ g < w.heap.size
  ints : ∀ {w base v l}, F w base v l → ∀ {g}, v.ownBlock = some g → ∃ cs, Bk w g 3 cs
theorem rowyF : Rowy FR := ⟨fun h hb => h.keep hb, fun h => h.lt, fun h _ hg => h.lr.ints hg⟩
theorem rowyL : Rowy LR := ⟨fun h hb => h.keep hb, fun h => h.lt, fun h _ hg => h.ints hg⟩
/-- the blocks of it -/
def Ft (M : Nat) (ks : List Str) (J : Str → Nat) (lv : Str → Value) (b : Nat) : Prop := b = M ∨ ∃ k, k ∈ ks ∧ (b = J k ∨ (lv k).ownBlock = some b)
section
variable {F : World → Nat → Value → List Nat → Prop} {w w' : World} {base M : Nat} {ks : List Str} {J : Str → Nat} {hs : Str → Nat → Int} {lv : Str → Value} {ls : Str → List Nat}
theorem UM.lt (hF : Rowy F) (h : UM F w base M ks J hs lv ls) {b : Nat} (hb : Ft M ks J lv b) : base ≤ b ∧ b < w.heap.size := by
  rcases hb with rfl | ⟨k, hk, rfl | hb⟩
  · exact ⟨h.lo.1, h.m.lt⟩
  · exact ⟨h.lo.2 k hk, (h.j k hk).lt⟩
  · exact hF.lt (h.l k hk) b hb
theorem UM.keep (hF : Rowy F) (h : UM F w base M ks J hs lv ls) (hb : ∀ b, Ft M ks J lv b → w'.heap[b]? = w.heap[b]?) : UM F w' base M ks J hs lv ls :=
  ⟨h.m.keep (hb _ (Or.inl rfl)), fun k hk => (hb _ (Or.inr ⟨k, hk, Or.inl rfl⟩)).trans (h.j k hk), fun k hk => hF.keep (h.l k hk) fun g hg _ => hb g (Or.inr ⟨k, hk, Or.inr hg⟩), h.nj, h.nl, h.lo⟩
theorem UM.heap (hF : Rowy F) (h : UM F w base M ks J hs lv ls) (hh : w'.heap = w.heap) : UM F w' base M ks J hs lv ls := h.keep hF fun b _ => by rw [hh]
theorem UM.pass (hF : Rowy F) (h : UM F w base M ks J hs lv ls) (hb : Below w.heap.size w w') : UM F w' base M ks J hs lv ls := h.keep hF fun b hf => hb.block b (h.lt hF hf).2
theorem UM.alloc (hF : Rowy F) (h : UM F w base M ks J hs lv ls) (o : Obj) : UM F (w.alloc o) base M ks J hs lv ls := h.keep hF fun b hf => Below.heap_alloc w o b (h.lt hF hf).2
theorem UM.grown (hF : Rowy F) (h : UM F w base M ks J hs lv ls) {row : Option Nat} (hg : w.grownBy w' row) (hr : ∀ b, Ft M ks J lv b → row ≠ some b) : UM F w' base M ks J hs lv ls := h.keep hF fun b hf => hg.block b (h.lt hF hf).2 fun c => hr b hf c.symm
theorem UM.far (hF : Rowy F) (h : UM F w base M ks J hs lv ls) {p : Addr} (hp : ¬ Ft M ks J lv p.block) (v : Value) : UM F (w.setCell p v) base M ks J hs lv ls := h.keep hF fun b hf => Below.heap_setCell w p v b fun e => hp (by rw [← e]; exact hf)
/-- the kinds of block are apart -/
theorem UM.own (hF : Rowy F) (h : UM F w base M ks J hs lv ls) {k : Str} (hk : k ∈ ks) {g : Nat} (hg : (lv k).ownBlock = some g) : g ≠ M ∧ ∀ k', k' ∈ ks → g ≠ J k' := by
  obtain ⟨cs, hc⟩ := hF.ints (h.l k hk) hg
  exact ⟨fun e => h.m.notCells hc e.symm, fun k' hk' e => by
    have h1 := h.j k' hk'
    rw [← e] at h1
    unfold Bk at hc h1
    rw [hc] at h1
    simp at h1⟩
theorem UM.job (_hF : Rowy F) (h : UM F w base M ks J hs lv ls) {k : Str} (hk : k ∈ ks) : J k ≠ M := fun e => h.m.notCells (h.j k hk) e.symm
/-- a user gets another row, and more -/
theorem UM.turn (hF : Rowy F) (h : UM F w base M ks J hs lv ls) {k : Str} (hk : k ∈ ks) {hs' : Nat → Int} {r : Value} {l : List Nat}
    (hkeep : ∀ b, b < w.heap.size → b ≠ J k → (lv k).ownBlock ≠ some b → w'.heap[b]? = w.heap[b]?) (hj : Bk w' (J k) 71 (userCells hs' r)) (hl : F w' base r l) (hr : ∀ g, r.ownBlock = some g → (lv k).ownBlock = some g ∨ w.heap.size ≤ g) :
    UM F w' base M ks J (updS hs k hs') (updS lv k r) (updS ls k l) := by
  have hM : w'.heap[M]? = w.heap[M]? := hkeep M h.m.lt (Ne.symm (h.job hF hk)) fun c => (h.own hF hk c).1 rfl
  refine ⟨h.m.keep hM, fun k' hk' => ?_, fun k' hk' => ?_, h.nj, fun a ha b hb hne g hg => ?_, h.lo⟩
  · by_cases e : k' = k
    · subst e; rw [updS_same, updS_same]; exact hj
    · rw [updS_other _ _ e, updS_other _ _ e]
      exact (hkeep _ (h.j k' hk').lt (h.nj k' hk' k hk e) fun c => (h.own hF hk c).2 k' hk' rfl).trans (h.j k' hk')
  · by_cases e : k' = k
    · subst e; rw [updS_same, updS_same]; exact hl
    · rw [updS_other _ _ e, updS_other _ _ e]
      exact hF.keep (h.l k' hk') fun g hg hlt => hkeep g hlt ((h.own hF hk' hg).2 k hk) (h.nl k' hk' k hk e g hg)
  · by_cases ea : a = k
    · subst ea
      rw [updS_same] at hg
      rw [updS_other _ _ (fun e => hne e.symm)]
      rcases hr g hg with c | c
      · exact h.nl a ha b hb hne g c
      · intro c2
        have := (hF.lt (h.l b hb) g c2).2
        omega
    · rw [updS_other _ _ ea] at hg
      by_cases eb : b = k
      · subst eb
        rw [updS_same]
        intro c2
        rcases hr g c2 with c | c
        · exact h.nl a ha b hb hne g hg c
        · have := (hF.lt (h.l a ha) g hg).2
          omega
      · rw [updS_other _ _ eb]
        exact h.nl a ha b hb hne g hg
/-- one user more -/
theorem UM.add (hF : Rowy F) (h : UM F w base M ks J hs lv ls) {k : Str} {jn : Nat} {h0 : Nat → Int} (hn : k ∉ ks) (hj : Bk w jn 71 (userCells h0 (.slice none 0 0))) (hf : ¬ Ft M ks J lv jn) (hlo : base ≤ jn) (h0F : F w' base (.slice none 0 0) [])
    (hg : w.grownBy w' (some M)) (hM : MapS w' M (ks ++ [k]) (updS (fun k => .pointer (some ⟨J k, 0, none⟩)) k (.pointer (some ⟨jn, 0, none⟩)))) :
    UM F w' base M (ks ++ [k]) (updS J k jn) (updS hs k h0) (updS lv k (.slice none 0 0)) (updS ls k []) := by
  have hk : ∀ b, b < w.heap.size → b ≠ M → w'.heap[b]? = w.heap[b]? := fun b hb hne => hg.block b hb fun c => hne (by simpa using c)
  have hne : ∀ x, x ∈ ks → x ≠ k := fun x hx e => hn (e ▸ hx)
  have hmem : ∀ x, x ∈ ks ++ [k] → x = k ∨ (x ∈ ks ∧ x ≠ k) := fun x hx => by
    rcases List.mem_append.1 hx with c | c
    · exact Or.inr ⟨c, hne x c⟩
    · simp at c; exact Or.inl c
  refine ⟨?_, fun x hx => ?_, fun x hx => ?_, fun a ha b hb hab => ?_, fun a ha b hb hab g hg1 => ?_, h.lo.1, fun x hx => ?_⟩
  · obtain ⟨D, h1, h2, h3, h4, h5, h6⟩ := hM
    refine ⟨D, h1, h2, h3, h4, fun x hx zd => ?_, h6⟩
    rw [h5 x hx zd]
    rcases hmem x hx with e | ⟨_, e⟩
    · rw [e, updS_same]; show _ = DataW.held (Value.pointer (some ⟨updS J k jn k, 0, none⟩)); rw [updS_same]
    · rw [updS_other _ _ e]; show _ = DataW.held (Value.pointer (some ⟨updS J k jn x, 0, none⟩)); rw [updS_other _ _ e]
  · rcases hmem x hx with rfl | ⟨hx2, e⟩
    · simp only [updS_same]
      exact (hk _ hj.lt (fun e => hf (Or.inl e))).trans hj
    · simp only [updS_other _ _ e]
      exact (hk _ (h.j x hx2).lt (h.job hF hx2)).trans (h.j x hx2)
  · rcases hmem x hx with rfl | ⟨hx2, e⟩
    · simp only [updS_same]; exact h0F
    · simp only [updS_other _ _ e]
      exact hF.keep (h.l x hx2) fun g hg2 hl => hk g hl (h.own hF hx2 hg2).1
  · rcases hmem a ha with rfl | ⟨ha2, ea⟩
    · rcases hmem b hb with rfl | ⟨hb2, eb⟩
      · exact absurd rfl hab
      · rw [updS_same, updS_other _ _ eb]
        exact fun e => hf (Or.inr ⟨b, hb2, Or.inl e⟩)
    · rcases hmem b hb with rfl | ⟨hb2, eb⟩
      · rw [updS_same, updS_other _ _ ea]
        exact fun e => hf (Or.inr ⟨a, ha2, Or.inl e.symm⟩)
      · rw [updS_other _ _ ea, updS_other _ _ eb]
        exact h.nj a ha2 b hb2 hab
  · rcases hmem a ha with rfl | ⟨ha2, ea⟩
    · rw [updS_same] at hg1; simp [Value.ownBlock] at hg1
    · rw [updS_other _ _ ea] at hg1
      rcases hmem b hb with rfl | ⟨hb2, eb⟩
      · rw [updS_same]; simp [Value.ownBlock]
      · rw [updS_other _ _ eb]
        exact h.nl a ha2 b hb2 hab g hg1
  · rcases hmem x hx with rfl | ⟨hx2, e⟩
    · rw [updS_same]; exact hlo
    · rw [updS_other _ _ e]; exact h.lo.2 x hx2
end

/-- the jobs that were handed over -/
structure WantAt (w : World) (bl o : Nat) (j : JD) : Prop where
  c0 : w.cell? ⟨bl, o, none⟩ = some (.int .i64 j.id)
  c1 : w.cell? ⟨bl, o + 1, none⟩ = some (encStr j.user)
  c2 : w.cell? ⟨bl, o + 2, none⟩ = some (.int .i64 j.prio)
  c3 : w.cell? ⟨bl, o + 3, none⟩ = some (.int .i64 (j.need 0))
  c4 : w.cell? ⟨bl, o + 4, none⟩ = some (.int .i64 (j.need 1))
  c5 : w.cell? ⟨bl, o + 5, none⟩ = some (.int .i64 (j.need 2))
  c6 : w.cell? ⟨bl, o + 6, none⟩ = some (.int .i64 (j.need 3))
  b0 : In64 j.id
  b1 : j.user.length ≤ maxLen
  b2 : In64 j.prio
  b3 : ∀ i, In64 (j.need i)
structure UseAt (w : World) (bl o : Nat) (j : UD) : Prop where
  c0 : w.cell? ⟨bl, o, none⟩ = some (encStr j.user)
  c1 : w.cell? ⟨bl, o + 1, none⟩ = some (.int .i64 (j.has 0))
  c2 : w.cell? ⟨bl, o + 2, none⟩ = some (.int .i64 (j.has 1))
  c3 : w.cell? ⟨bl, o + 3, none⟩ = some (.int .i64 (j.has 2))
  c4 : w.cell? ⟨bl, o + 4, none⟩ = some (.int .i64 (j.has 3))
  b0 : j.user.length ≤ maxLen
  b1 : ∀ i, In64 (j.has i)
def WantsIn (w : World) (A : Option Addr) (n : Nat) (f : Nat → JD) : Prop := 0 < n → ∃ bl off, A = some ⟨bl, off, none⟩ ∧ ∀ i, i < n → WantAt w bl (off + i * 7) (f i)
def UsesIn (w : World) (A : Option Addr) (n : Nat) (f : Nat → UD) : Prop := 0 < n → ∃ bl off, A = some ⟨bl, off, none⟩ ∧ ∀ i, i < n → UseAt w bl (off + i * 5) (f i)
theorem WantAt.lt {w : World} {bl o : Nat} {j : JD} (h : WantAt w bl o j) : bl < w.heap.size := World.block_lt_of_cell? w ⟨bl, o, none⟩ h.c0
theorem UseAt.lt {w : World} {bl o : Nat} {j : UD} (h : UseAt w bl o j) : bl < w.heap.size := World.block_lt_of_cell? w ⟨bl, o, none⟩ h.c0
theorem WantAt.keep {w w' : World} {bl o : Nat} {j : JD} (h : WantAt w bl o j) (hh : w'.heap[bl]? = w.heap[bl]?) : WantAt w' bl o j :=
  ⟨(World.cell?_of_block hh).trans h.c0, (World.cell?_of_block hh).trans h.c1, (World.cell?_of_block hh).trans h.c2, (World.cell?_of_block hh).trans h.c3, (World.cell?_of_block hh).trans h.c4, (World.cell?_of_block hh).trans h.c5, (World.cell?_of_block hh).trans h.c6, h.b0, h.b1, h.b2, h.b3⟩
theorem UseAt.keep {w w' : World} {bl o : Nat} {j : UD} (h : UseAt w bl o j) (hh : w'.heap[bl]? = w.heap[bl]?) : UseAt w' bl o j :=
  ⟨(World.cell?_of_block hh).trans h.c0, (World.cell?_of_block hh).trans h.c1, (World.cell?_of_block hh).trans h.c2, (World.cell?_of_block hh).trans h.c3, (World.cell?_of_block hh).trans h.c4, h.b0, h.b1⟩
theorem WantsIn.keep {w w' : World} {A : Option Addr} {n : Nat} {f : Nat → JD} (h : WantsIn w A n f) (hb : Below w.heap.size w w') : WantsIn w' A n f := fun hn => by
  obtain ⟨bl, off, e, h1⟩ := h hn
  exact ⟨bl, off, e, fun i hi => (h1 i hi).keep (hb.block bl (h1 i hi).lt)⟩
theorem UsesIn.keep {w w' : World} {A : Option Addr} {n : Nat} {f : Nat → UD} (h : UsesIn w A n f) (hb : Below w.heap.size w w') : UsesIn w' A n f := fun hn => by
  obtain ⟨bl, off, e, h1⟩ := h hn
  exact ⟨bl, off, e, fun i hi => (h1 i hi).keep (hb.block bl (h1 i hi).lt)⟩
end Go.Proofs.Ytnjgkgnjbmfpfaa
