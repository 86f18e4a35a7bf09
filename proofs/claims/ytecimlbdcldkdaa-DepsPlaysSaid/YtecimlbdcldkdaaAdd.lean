/- Walk of Add. -/
import Derived.Test.YtecimlbdcldkdaaGr
namespace Go.Proofs.Ytecimlbdcldkdaa
open Go.RowKit Go.Maps Dep

/-- nothing but blocks of F and new ones has turned -/
structure Eff (w w' : World) (F : Nat → Prop) : Prop where
  os : w'.os = w.os
  tape : w'.tape = w.tape
  output : w'.output = w.output
  size : w.heap.size ≤ w'.heap.size
  block : ∀ b, b < w.heap.size → ¬ F b → w'.heap[b]? = w.heap[b]?
section
variable {w w1 w2 : World} {F : Nat → Prop}
theorem Eff.refl (w : World) (F : Nat → Prop) : Eff w w F := ⟨rfl, rfl, rfl, Nat.le_refl _, fun _ _ _ => rfl⟩
theorem Eff.grown (h : Eff w w1 F) {row : Option Nat} (hg : w1.grownBy w2 row) (hr : ∀ b, row = some b → F b ∨ w.heap.size ≤ b) : Eff w w2 F :=
  ⟨hg.os.trans h.os, hg.tape.trans h.tape, hg.output.trans h.output, Nat.le_trans h.size hg.size, fun b hb hF => (hg.block b (Nat.lt_of_lt_of_le hb h.size) fun c => by
    rcases hr b c.symm with e | e
    · exact hF e
    · omega).trans (h.block b hb hF)⟩
theorem Eff.below (h : Eff w w1 F) (hb : Below w1.heap.size w1 w2) : Eff w w2 F :=
  ⟨hb.os.trans h.os, hb.tape.trans h.tape, hb.output.trans h.output, Nat.le_trans h.size hb.size, fun b hl hF => (hb.block b (Nat.lt_of_lt_of_le hl h.size)).trans (h.block b hl hF)⟩
theorem Eff.alloc (h : Eff w w1 F) (o : Obj) : Eff w (w1.alloc o) F := h.grown (row := none) ⟨rfl, rfl, rfl, by simp, fun b hb _ => Below.heap_alloc w1 o b hb⟩ (fun b hb => by cases hb)
theorem Eff.setCell (h : Eff w w1 F) (p : Addr) (v : Value) (hp : F p.block ∨ w.heap.size ≤ p.block) : Eff w (w1.setCell p v) F :=
  h.grown (row := some p.block) ⟨rfl, rfl, rfl, by simp, fun b _ hne => Below.heap_setCell w1 p v b (fun e => hne (by rw [e]))⟩ (fun b hb => by simp only [Option.some.injEq] at hb; rw [← hb]; exact hp)
theorem Eff.toBelow {W : World} {B : Nat} (hW : Below B W w) (h : Eff w w1 F) (hB : B ≤ w.heap.size) (hF : ∀ b, F b → B ≤ b) : Below B W w1 :=
  ⟨h.os.trans hW.os, h.tape.trans hW.tape, h.output.trans hW.output, Nat.le_trans hW.size h.size, fun b hb => (h.block b (Nat.lt_of_lt_of_le hb hB) fun c => by have := hF b c; omega).trans (hW.block b hb)⟩
theorem Eff.cell (h : Eff w w1 F) {p : Addr} {v : Value} (hc : w.cell? p = some v) (hp : ¬ F p.block) : w1.cell? p = some v := (World.cell?_of_block (h.block p.block (World.block_lt_of_cell? w p hc) hp)).trans hc
end

/-- what is asked of the numbers handed over: they can be read, and no part of the graph holds them -/
def NumsOut (w : World) (d : GD) (s : GS) (A : Option Addr) (n : Nat) (e : Nat → Int) : Prop :=
  n ≤ 1000 ∧ (∀ j, In64 (e j)) ∧ (0 < n → ∃ g o, A = some ⟨g, o, none⟩ ∧ ¬ Foot d s g ∧ ∀ j, j < n → w.cell? ⟨g, o + j, none⟩ = some (.int .i64 (e j)))
/-- is the number n of a job that is over and was not well -/
def badId (s : GS) (x : Int) : Prop := ∃ i, i < s.N ∧ (s.id i : Int) = x ∧ s.ov i = true ∧ s.wl i = false
def openId (s : GS) (x : Int) : Prop := ∃ i, i < s.N ∧ (s.id i : Int) = x ∧ s.ov i = false
/-- the graph behind a job that was put in -/
structure Added (s s' : GS) (k n : Nat) (e : Nat → Int) (b : Bool) : Prop where
  N : s'.N = s.N + 1
  id : s'.id = upd s.id s.N k
  ov : s'.ov = upd s.ov s.N b
  wl : s'.wl = upd s.wl s.N false
  bad : b = true ↔ ∃ j, j < n ∧ badId s (e j)
  old : ∀ i, i < s.N → s'.ws i = s.ws i
  ws : ∀ y, y ∈ s'.ws s.N ↔ openId s (y : Int) ∧ ∃ j, j < n ∧ e j = (y : Int)
  wn : (s'.ws s.N).length ≤ n
  bl : ∀ i, i < s.N → ((s.ov i = false ∧ ∃ j, j < n ∧ e j = (s.id i : Int)) → s'.bl i = s.bl i ++ [k]) ∧ (¬ (s.ov i = false ∧ ∃ j, j < n ∧ e j = (s.id i : Int)) → s'.bl i = s.bl i)
  bn : s'.bl s.N = []
def AddSaid (base : Nat) (d : GD) (s : GS) (x : Int) (n : Nat) (e : Nat → Int) (w : World) (r : Ending) (w' : World) : Prop :=
  (w' = w ∧ ((x < 1 ∧ r = .returned (.tuple #[.bool false, .int .i64 1])) ∨
    (1 ≤ x ∧ (∃ i, i < s.N ∧ (s.id i : Int) = x) ∧ r = .returned (.tuple #[.bool false, .int .i64 51])) ∨
    (1 ≤ x ∧ (¬ ∃ i, i < s.N ∧ (s.id i : Int) = x) ∧ (∃ j, j < n ∧ ¬ ∃ i, i < s.N ∧ (s.id i : Int) = e j) ∧ r = .returned (.tuple #[.bool false, .int .i64 90])))) ∨
  (1 ≤ x ∧ (¬ ∃ i, i < s.N ∧ (s.id i : Int) = x) ∧ (∀ j, j < n → ∃ i, i < s.N ∧ (s.id i : Int) = e j) ∧ ∃ (k : Nat) (b : Bool) (d' : GD) (s' : GS), x = (k : Int) ∧ r = .returned (.tuple #[.bool b, .int .i64 0]) ∧ Gm w' base d' s' ∧ Added s s' k n e b ∧ d'.G = d.G ∧ (∀ g, Foot d' s' g → Foot d s g ∨ w.heap.size ≤ g) ∧ Eff w w' (Foot d s))

theorem add_nil (w : World) (x : Int) (A : Option Addr) (n c : Nat) : Calls Try.prog 20 #[.pointer none, .int .i64 x, .slice A n c] w fun e w' => e = .returned (.tuple #[.bool false, .int .i64 1]) ∧ w' = w := by
  go_enter Try.func20, Try.ntmps20
  go_wp2_with fail
  go_ret2
  exact ⟨rfl, rfl⟩
theorem foot_job {w : World} {base : Nat} {d : GD} {s : GS} (h : Gm w base d s) {x : Nat} {cs : Array Value} (hx : Bk w x 71 cs) (h1 : ∀ i, i < s.N → x ≠ d.J i) : ¬ Foot d s x := by
  obtain ⟨f, hm, _⟩ := h.m
  rintro (e | e | ⟨i, hi, e | e | e⟩)
  · exact hx.apart h.g (by decide) e
  · exact hm.notCells hx e.symm
  · exact h1 i hi e
  · exact (h.b i hi).notCells hx e.symm
  · rcases h.f.1 i hi with ⟨e2, _⟩ | ⟨g', o, cap, cs2, e2, k1, k2, _⟩
    · rw [e2] at e; simp [Value.ownBlock] at e
    · rw [e2] at e
      simp [Value.ownBlock] at e
      subst e
      exact k2.apart hx (by decide) rfl
theorem foot_map {w : World} {base : Nat} {d : GD} {s : GS} (h : Gm w base d s) {x : Nat} {ks : List Nat} {f : Nat → Value} (hx : MapV w x ks f) (h1 : x ≠ d.M) (h2 : ∀ i, i < s.N → x ≠ d.B i) : ¬ Foot d s x := by
  rintro (e | e | ⟨i, hi, e | e | e⟩)
  · exact hx.notCells h.g e
  · exact h1 e
  · exact hx.notCells (h.j i hi) e
  · exact h2 i hi e
  · rcases h.f.1 i hi with ⟨e2, _⟩ | ⟨g', o, cap, cs2, e2, k1, k2, _⟩
    · rw [e2] at e; simp [Value.ownBlock] at e
    · rw [e2] at e
      simp [Value.ownBlock] at e
      subst e
      exact hx.notCells k2 rfl
def OvIff (v : Bool) (P : Prop) : Prop := v = true ↔ P
theorem zeroI (w : World) : (zeroValue 3).run Try.prog w = .ok (.int .i64 0) w := by kernel_rfl

set_option maxRecDepth 100000 in
set_option maxHeartbeats 8000000 in
theorem add_any {w : World} {base : Nat} {d : GD} {s : GS} (h : Gm w base d s) (hN : s.N ≤ 1000) (hbl : ∀ i, i < s.N → (s.bl i).length ≤ 1000) (hb0 : base ≤ w.heap.size) (x : Int) (hx64 : In64 x) (A : Option Addr) (n c : Nat) (e : Nat → Int) (hA : NumsOut w d s A n e) :
    Calls Try.prog 20 #[.pointer (some ⟨d.G, 0, none⟩), .int .i64 x, .slice A n c] w (AddSaid base d s x n e w) := by
  obtain ⟨f, hm, hf⟩ := h.m
  have H := Lib.hid (show _ ∧ _ ∧ _ ∧ _ from ⟨h, hm, hf, hbl⟩)
  have HA := Lib.hid hA
  have cG : w.cell? ⟨d.G, 0, none⟩ = some (.map (some d.M)) := h.g.cell rfl
  have hn : (n : Int) ≤ 1000 := by have := hA.1; omega
  clear h hf hA hbl
  by_cases hx1 : x < 1
  · clear hm
    go_enter Try.func20, Try.ntmps20
    go_wp2_with fail
    go_ret2
    exact Or.inl ⟨rfl, Or.inl ⟨hx1, rfl⟩⟩
  obtain ⟨k, rfl⟩ := Int.eq_ofNat_of_zero_le (by omega : 0 ≤ x)
  have hk1 : (1 : Int) ≤ (k : Int) := by omega
  clear hx1
  by_cases hin : k ∈ s.ids
  · have hlook := hm.look Try.underlying65 (zeroJob w) hin
    obtain ⟨i, hi, rfl⟩ := mem_ids.1 hin
    rw [H.out.2.2.1 i hi] at hlook
    clear hm hin
    go_enter Try.func20, Try.ntmps20
    go_wp2_with fail
    go_ret2
    exact Or.inl ⟨rfl, Or.inr (Or.inl ⟨hk1, ⟨i, hi, rfl⟩, rfl⟩)⟩
  have hnot : Hid (k ∉ s.ids ∧ ¬ ∃ i, i < s.N ∧ (s.id i : Int) = (k : Int)) := Lib.hid ⟨hin, fun ⟨i, hi, e1⟩ => hin (mem_ids.2 ⟨i, hi, by omega⟩)⟩
  have hlook0 := hm.lookNot Try.underlying65 (zeroJob w) hx64 (fun j hj e1 => hin ((show k = j by omega) ▸ hj))
  clear hm hin
  go_enter Try.func20, Try.ntmps20
  go_wp2_with fail
  go_loopg [31] n (fun g s31 wr => ∃ j : Nat, j ≤ n ∧ g = n - j ∧ s31 = .int .i64 j ∧ w = wr ∧ Hid (∀ p, p < j → ∃ i, i < s.N ∧ (s.id i : Int) = e p))
  case atStart => exact ⟨0, by omega, by omega, rfl, rfl, Lib.hid (fun p hp => by omega)⟩
  case round =>
    obtain ⟨j, hj, hg, rfl, rfl, HJ⟩ := hrel
    have j0 : (0 : Int) ≤ (j : Int) := by omega
    by_cases hjn : j < n
    · obtain ⟨ga, oa, rfl, _, hca⟩ := HA.out.2.2 (by omega)
      have ca := hca j hjn
      have j1 : (j : Int) < (n : Int) := by omega
      clear hca
      by_cases hin : ∃ y ∈ s.ids, e j = (y : Int)
      · obtain ⟨y, hy, hey⟩ := hin
        have hlook := H.out.2.1.look Try.underlying65 (zeroJob w) hy
        obtain ⟨i, hi, rfl⟩ := mem_ids.1 hy
        rw [H.out.2.2.1 i hi] at hlook
        rw [hey] at ca
        have HEY := Lib.hid hey
        clear hy hey
        go_wp2_with fail
        go_roundg (n - (j + 1))
        case measure => omega
        case rel =>
          refine ⟨j + 1, by omega, rfl, by go_num, rfl, Lib.hid fun p hp => ?_⟩
          by_cases c : p = j
          · rw [c]; exact ⟨i, hi, HEY.out.symm⟩
          · exact HJ.out p (by omega)
      · have hlook := H.out.2.1.lookNot Try.underlying65 (zeroJob w) (HA.out.2.1 j) (fun y hy e1 => hin ⟨y, hy, e1⟩)
        have HNO := Lib.hid (show ¬ ∃ i, i < s.N ∧ (s.id i : Int) = e j from fun ⟨i, hi, e1⟩ => hin ⟨s.id i, mem_ids.2 ⟨i, hi, rfl⟩, e1.symm⟩)
        obtain ⟨z, hz⟩ : ∃ z, Hid (e j = z) := ⟨_, Lib.hid rfl⟩
        rw [hz.out] at ca hlook
        clear hin
        go_wp2_with fail
        go_ret2
        exact Or.inl ⟨rfl, Or.inr (Or.inr ⟨hk1, hnot.out.2, ⟨j, hjn, HNO.out⟩, rfl⟩)⟩
    · obtain rfl : n = j := by omega
      have hmm := @run_makeMap Try.prog
      have hJ0 : w.heap.size + 1 < ((w.alloc (.map #[] 0)).alloc (.cells #[.map (some w.heap.size), .slice none 0 0, .bool false, .bool false] 71)).heap.size := by simp
      have hM2 : MapV ((w.alloc (.map #[] 0)).alloc (.cells #[.map (some w.heap.size), .slice none 0 0, .bool false, .bool false] 71)) w.heap.size [] (fun _ => .int .i64 1) := (MapV.made w _).keep (Below.heap_alloc _ _ _ (by simp))
      have hJ2 : Bk ((w.alloc (.map #[] 0)).alloc (.cells #[.map (some w.heap.size), .slice none 0 0, .bool false, .bool false] 71)) (w.heap.size + 1) 71 #[.map (some w.heap.size), .slice none 0 0, .bool false, .bool false] := Bk.newAt (by simp)
      have hG2 := (H.out.1.alloc (.map #[] 0)).alloc (.cells #[.map (some w.heap.size), .slice none 0 0, .bool false, .bool false] 71)
      have hE2 := ((Eff.refl w (Foot d s)).alloc (.map #[] 0)).alloc (.cells #[.map (some w.heap.size), .slice none 0 0, .bool false, .bool false] 71)
      have H2 := Lib.hid (show _ ∧ _ ∧ _ ∧ _ from ⟨hM2, hJ2, hG2, hE2⟩)
      clear hJ0 hM2 hJ2 hG2 hE2 hlook0 cG
      go_wp2_with fail
      go_loopg [48] n (fun g s48 w2 => ∃ j : Nat, j ≤ n ∧ g = n - j ∧ s48 = .int .i64 j ∧ ∃ bk' bl' ovn wsn,
        Hid (Gm w2 base { d with bk := bk' } { s with bl := bl' } ∧ Bk w2 (w.heap.size + 1) 71 #[.map (some w.heap.size), .slice none 0 0, .bool ovn, .bool false] ∧ MapV w2 w.heap.size wsn (fun _ => .int .i64 1) ∧ Eff w w2 (Foot d s) ∧
          (∀ i, i < s.N → ∀ b, (bk' i).ownBlock = some b → (d.bk i).ownBlock = some b ∨ w.heap.size ≤ b) ∧ OvIff ovn (∃ p, p < j ∧ badId s (e p)) ∧ (∀ y, y ∈ wsn ↔ openId s (y : Int) ∧ ∃ p, p < j ∧ e p = (y : Int)) ∧ wsn.length ≤ j ∧
          ∀ i, i < s.N → ((s.ov i = false ∧ ∃ p, p < j ∧ e p = (s.id i : Int)) → bl' i = s.bl i ++ [k]) ∧ (¬ (s.ov i = false ∧ ∃ p, p < j ∧ e p = (s.id i : Int)) → bl' i = s.bl i)))
      case atStart =>
        exact ⟨0, by omega, by omega, rfl, d.bk, s.bl, false, [], Lib.hid ⟨H2.out.2.2.1, H2.out.2.1, H2.out.1, H2.out.2.2.2, fun i _ b hb => Or.inl hb, ⟨fun h => (by cases h), fun ⟨p, hp, _⟩ => (by omega)⟩, fun y => ⟨fun h => (by cases h), fun ⟨_, p, hp, _⟩ => (by omega)⟩, Nat.le_refl _, fun i _ => ⟨fun ⟨_, p, hp, _⟩ => (by omega), fun _ => rfl⟩⟩⟩
      case round =>
        clear H2
        obtain ⟨j, hj, hg2, rfl, bk', bl', ovn, wsn, H3⟩ := hrel
        have j0 : (0 : Int) ≤ (j : Int) := by omega
        by_cases hjn : j < n
        · obtain ⟨ga, oa, rfl, hga, hca⟩ := HA.out.2.2 (by omega)
          have ca : wr.cell? ⟨ga, oa + j, none⟩ = some (.int .i64 (e j)) := H3.out.2.2.2.1.cell (hca j hjn) hga
          have j1 : (j : Int) < (n : Int) := by omega
          obtain ⟨i, hi, hei⟩ := HJ.out j hjn
          obtain ⟨f3, hm3, hf3⟩ := H3.out.1.m
          have hlook := hm3.look Try.underlying65 (zeroJob wr) (mem_ids.2 ⟨i, hi, rfl⟩)
          rw [hf3 i hi] at hlook
          rw [← hei] at ca
          have HEI := Lib.hid hei
          have cG : wr.cell? ⟨d.G, 0, none⟩ = some (.map (some d.M)) := H3.out.1.g.cell rfl
          have hjob := H3.out.1.j i hi
          have c1 : wr.cell? ⟨d.J i, 1, none⟩ = some (bk' i) := hjob.cell rfl
          have c2 : wr.cell? ⟨d.J i, 2, none⟩ = some (.bool (s.ov i)) := hjob.cell rfl
          have c3 : wr.cell? ⟨d.J i, 3, none⟩ = some (.bool (s.wl i)) := hjob.cell rfl
          have n0 : wr.cell? ⟨w.heap.size + 1, 0, none⟩ = some (.map (some w.heap.size)) := H3.out.2.1.cell rfl
          have n2 : wr.cell? ⟨w.heap.size + 1, 2, none⟩ = some (.bool ovn) := H3.out.2.1.cell rfl
          have nf := H3.out.2.1.free 2
          have hiJ : d.J i < w.heap.size := (H.out.1.j i hi).lt
          obtain ⟨ovi, hov⟩ : ∃ b, Hid (s.ov i = b) := ⟨_, Lib.hid rfl⟩
          obtain ⟨wli, hwl⟩ : ∃ b, Hid (s.wl i = b) := ⟨_, Lib.hid rfl⟩
          obtain ⟨y, hy⟩ : ∃ y, Hid (s.id i = y) := ⟨_, Lib.hid rfl⟩
          rw [hov.out] at c2
          rw [hwl.out] at c3
          rw [hy.out] at ca
          have hlook' : Sem.run Try.prog (Instr.lookup 65 (.map (some d.M)) (.int .i64 (y : Int)) false) wr = .ok (.pointer (some ⟨d.J i, 0, none⟩)) wr := by rw [← hy.out]; exact hlook
          clear hlook hm3 hf3 hca hei hjob
          have hsame : ∀ q, q < s.N → (s.id q : Int) = e j → q = i := fun q hq e1 => H.out.1.inj hq hi (by have := HEI.out; omega)
          have HS := Lib.hid hsame
          clear hsame
          have hNJ := foot_job H3.out.1 H3.out.2.1 (fun q hq => by have := (H.out.1.j q hq).lt; show _ ≠ d.J q; omega)
          have hNB := foot_map H3.out.1 H3.out.2.2.1 (fun e1 => by have := (H.out.1.foot_lt d.M (Or.inr (Or.inl rfl))).2; have : w.heap.size = d.M := e1; omega) (fun q hq e1 => by have := (H.out.1.b q hq).lt; have : w.heap.size = d.B q := e1; omega)
          have HNJ := Lib.hid (show _ ∧ _ from ⟨hNJ, hNB⟩)
          clear hNJ hNB
          cases ovi with
          | true =>
            have hnext : ∀ v, v = (ovn || !wli) → Hid (Gm (wr.setCell ⟨w.heap.size + 1, 2, none⟩ (.bool v)) base { d with bk := bk' } { s with bl := bl' } ∧ Bk (wr.setCell ⟨w.heap.size + 1, 2, none⟩ (.bool v)) (w.heap.size + 1) 71 #[.map (some w.heap.size), .slice none 0 0, .bool v, .bool false] ∧ MapV (wr.setCell ⟨w.heap.size + 1, 2, none⟩ (.bool v)) w.heap.size wsn (fun _ => .int .i64 1) ∧ Eff w (wr.setCell ⟨w.heap.size + 1, 2, none⟩ (.bool v)) (Foot d s) ∧
                (∀ i, i < s.N → ∀ b, (bk' i).ownBlock = some b → (d.bk i).ownBlock = some b ∨ w.heap.size ≤ b) ∧ OvIff v (∃ p, p < j + 1 ∧ badId s (e p)) ∧ (∀ y, y ∈ wsn ↔ openId s (y : Int) ∧ ∃ p, p < j + 1 ∧ e p = (y : Int)) ∧ wsn.length ≤ j + 1 ∧
                ∀ i, i < s.N → ((s.ov i = false ∧ ∃ p, p < j + 1 ∧ e p = (s.id i : Int)) → bl' i = s.bl i ++ [k]) ∧ (¬ (s.ov i = false ∧ ∃ p, p < j + 1 ∧ e p = (s.id i : Int)) → bl' i = s.bl i)) := fun v hv => by
              have hsub : ∀ q, q < s.N → s.ov q = false → (∃ p, p < j + 1 ∧ e p = (s.id q : Int)) → ∃ p, p < j ∧ e p = (s.id q : Int) := fun q hq ho ⟨p, hp, e1⟩ => by
                by_cases c : p = j
                · have := HS.out q hq (by rw [← e1, c])
                  rw [this, hov.out] at ho
                  cases ho
                · exact ⟨p, by omega, e1⟩
              refine Lib.hid ⟨H3.out.1.keep fun b hb => Below.heap_setCell wr _ _ _ (fun e1 => HNJ.out.1 (by have e2 : b = w.heap.size + 1 := e1; rw [← e2]; exact hb)), H3.out.2.1.set 2 _, H3.out.2.2.1.keep (Below.heap_setCell wr _ _ _ (by simp)), H3.out.2.2.2.1.setCell _ _ (Or.inr (by simp)), H3.out.2.2.2.2.1, ?_, fun z => ?_, by have := H3.out.2.2.2.2.2.2.2.1; omega, fun q hq => ?_⟩
              · have h0 := H3.out.2.2.2.2.2.1
                unfold OvIff at h0 ⊢
                rw [hv, Bool.or_eq_true, h0]
                constructor
                · rintro (⟨p, hp, hb⟩ | hb)
                  · exact ⟨p, by omega, hb⟩
                  · exact ⟨j, by omega, i, hi, HEI.out, hov.out, by rw [hwl.out]; simpa using hb⟩
                · rintro ⟨p, hp, hb⟩
                  by_cases c : p = j
                  · obtain ⟨q, hq, e1, e2, e3⟩ := hb
                    rw [c] at e1
                    have := HS.out q hq e1
                    rw [this, hwl.out] at e3
                    right; rw [e3]; rfl
                  · exact Or.inl ⟨p, by omega, hb⟩
              · rw [H3.out.2.2.2.2.2.2.1]
                constructor
                · rintro ⟨h1, p, hp, e1⟩; exact ⟨h1, p, by omega, e1⟩
                · rintro ⟨⟨q, hq, e2, ho⟩, h1⟩
                  obtain ⟨p, hp, e1⟩ := hsub q hq ho (by obtain ⟨p, hp, e1⟩ := h1; exact ⟨p, hp, by rw [e1, e2]⟩)
                  exact ⟨⟨q, hq, e2, ho⟩, p, hp, by rw [e1, e2]⟩
              · obtain ⟨h1, h2⟩ := H3.out.2.2.2.2.2.2.2.2 q hq
                exact ⟨fun ⟨ho, h3⟩ => h1 ⟨ho, hsub q hq ho h3⟩, fun h3 => h2 fun ⟨ho, p, hp, e1⟩ => h3 ⟨ho, p, by omega, e1⟩⟩
            cases ovn with
            | true =>
              have HX := hnext true rfl
              clear hnext
              go_wp2_with fail
              go_roundg (n - (j + 1))
              case measure => omega
              case rel => exact ⟨j + 1, by omega, rfl, by go_num, bk', bl', true, wsn, HX⟩
            | false =>
              cases wli with
              | true =>
                have HX := hnext false rfl
                clear hnext
                go_wp2_with fail
                go_roundg (n - (j + 1))
                case measure => omega
                case rel => exact ⟨j + 1, by omega, rfl, by go_num, bk', bl', false, wsn, HX⟩
              | false =>
                have HX := hnext true rfl
                clear hnext
                go_wp2_with fail
                go_roundg (n - (j + 1))
                case measure => omega
                case rel => exact ⟨j + 1, by omega, rfl, by go_num, bk', bl', true, wsn, HX⟩
          | false =>
            have hyk : Nat64 y := by
              obtain ⟨f4, hm4, _⟩ := H.out.1.m
              rw [← hy.out]
              exact hm4.key _ (mem_ids.2 ⟨i, hi, rfl⟩)
            obtain ⟨v4, hlk⟩ := H3.out.2.2.1.lookOk Try.underlying69 (zeroI wr) hyk
            have hbad : Hid (OvIff ovn (∃ p, p < j + 1 ∧ badId s (e p))) := Lib.hid (by
              have h0 := H3.out.2.2.2.2.2.1
              unfold OvIff at h0 ⊢
              rw [h0]
              constructor
              · rintro ⟨p, hp, hb⟩; exact ⟨p, by omega, hb⟩
              · rintro ⟨p, hp, hb⟩
                by_cases c : p = j
                · obtain ⟨q, hq, e1, e2, e3⟩ := hb
                  rw [c] at e1
                  have := HS.out q hq e1
                  rw [this, hov.out] at e2
                  cases e2
                · exact ⟨p, by omega, hb⟩)
            obtain ⟨cb, hcb⟩ : ∃ b, Hid (wsn.contains y = b) := ⟨_, Lib.hid rfl⟩
            rw [hcb.out] at hlk
            cases cb with
            | true =>
              have hyw : y ∈ wsn := List.contains_iff_mem.1 hcb.out
              have hold := Lib.hid ((H3.out.2.2.2.2.2.2.1 y).1 hyw).2
              clear hyw
              go_wp2_with fail
              go_roundg (n - (j + 1))
              case measure => omega
              case rel =>
                refine ⟨j + 1, by omega, rfl, by go_num, bk', bl', ovn, wsn, Lib.hid ⟨H3.out.1, H3.out.2.1, H3.out.2.2.1, H3.out.2.2.2.1, H3.out.2.2.2.2.1, hbad.out, fun z => ?_, by have := H3.out.2.2.2.2.2.2.2.1; omega, fun q hq => ?_⟩⟩
                · rw [H3.out.2.2.2.2.2.2.1]
                  constructor
                  · rintro ⟨h1, p, hp, e1⟩; exact ⟨h1, p, by omega, e1⟩
                  · rintro ⟨h1, p, hp, e1⟩
                    by_cases c : p = j
                    · obtain ⟨p2, hp2, e2⟩ := hold.out
                      rw [c] at e1
                      exact ⟨h1, p2, hp2, by rw [e2, ← hy.out, HEI.out, e1]⟩
                    · exact ⟨h1, p, by omega, e1⟩
                · obtain ⟨h1, h2⟩ := H3.out.2.2.2.2.2.2.2.2 q hq
                  refine ⟨fun ⟨ho, p, hp, e1⟩ => ?_, fun h3 => h2 fun ⟨ho, p, hp, e1⟩ => h3 ⟨ho, p, by omega, e1⟩⟩
                  by_cases c : p = j
                  · obtain ⟨p2, hp2, e2⟩ := hold.out
                    rw [c] at e1
                    exact h1 ⟨ho, p2, hp2, by rw [e2, ← hy.out, HEI.out, e1]⟩
                  · exact h1 ⟨ho, p, by omega, e1⟩
            | false =>
              have hyn : y ∉ wsn := fun c => by
                have := List.contains_iff_mem.2 c
                rw [hcb.out] at this
                cases this
              have hwl2 : wsn.length ≤ 1000000 := by have := H3.out.2.2.2.2.2.2.2.1; omega
              obtain ⟨w4, hput, hM4, hg4⟩ := H3.out.2.2.1.put Try.underlying69 hyk hyn hwl2 (.int .i64 1)
              have hG4 := H3.out.1.grown hg4 (fun b hb c => HNJ.out.2 (by simp only [Option.some.injEq] at c; rw [c]; exact hb))
              have hJ4 : Bk w4 (w.heap.size + 1) 71 #[.map (some w.heap.size), .slice none 0 0, .bool ovn, .bool false] := (hg4.block _ H3.out.2.1.lt (by simp)).trans H3.out.2.1
              have hM5 : MapV w4 w.heap.size (wsn ++ [y]) (fun _ => .int .i64 1) := hM4.congr fun q _ => by unfold upd; split <;> rfl
              have hE4 := H3.out.2.2.2.1.grown hg4 (fun b hb => Or.inr (by simp only [Option.some.injEq] at hb; omega))
              obtain ⟨Ak, ck, hrow⟩ := (hG4.f.1 i hi).form
              have hFi := hG4.f.1 i hi
              change FR w4 base (bk' i) (bl' i) at hFi
              change bk' i = .slice Ak (bl' i).length ck at hrow
              have hbl1 : (bl' i).length ≤ 1001 := by
                obtain ⟨h1, h2⟩ := H3.out.2.2.2.2.2.2.2.2 i hi
                have h3 := H.out.2.2.2 i hi
                by_cases c : s.ov i = false ∧ ∃ p, p < j ∧ e p = (s.id i : Int)
                · rw [h1 c, List.length_append, List.length_singleton]; omega
                · rw [h2 c]; omega
              obtain ⟨kb, hkb⟩ : ∃ q, Hid ((bl' i).length = q) := ⟨_, Lib.hid rfl⟩
              rw [hkb.out] at hrow hbl1
              have c14 : w4.cell? ⟨d.J i, 1, none⟩ = some (.slice Ak kb ck) := by rw [← hrow]; exact (hG4.j i hi).cell rfl
              have n04 : w4.cell? ⟨w.heap.size + 1, 0, none⟩ = some (.map (some w.heap.size)) := hJ4.cell rfl
              have hkb2 : kb ≤ 1000000 := by omega
              rw [hrow] at hFi
              have H4 := Lib.hid (show _ ∧ _ ∧ _ ∧ _ ∧ _ ∧ _ from ⟨hG4, hJ4, hM5, hE4, hrow, hFi⟩)
              have hb4 : base ≤ w4.heap.size := Nat.le_trans hb0 hE4.size
              have hyn2 := Lib.hid hyn
              clear hG4 hJ4 hM5 hE4 hrow hFi hM4 hg4 hyn c1 hbl1
              go_wp2_with (at_builtin; refine wpList_frpush H4.out.2.2.2.2.2 (k := k) hkb2 hb4 rfl _ _ rfl rfl rfl rfl ?_)
              intro A' c' W' hg5 hF5 hr5
              have hrw := H4.out.2.2.2.2.1
              rw [← hrw] at hg5 hr5
              obtain ⟨q1, q2, hG6⟩ := H4.out.1.push (i := i) hi (w' := W') hg5 hF5 hr5
              have q1' : W'.cell? ⟨d.J i, 1, none⟩ = some (.slice Ak kb ck) := by rw [← hrw]; exact q1
              have hnotJ : (bk' i).ownBlock ≠ some (w.heap.size + 1) := fun c => HNJ.out.1 (Or.inr (Or.inr ⟨i, hi, Or.inr (Or.inr c)⟩))
              have hnotB : (bk' i).ownBlock ≠ some w.heap.size := fun c => HNJ.out.2 (Or.inr (Or.inr ⟨i, hi, Or.inr (Or.inr c)⟩))
              have hJ6 : Bk (W'.setCell ⟨d.J i, 1, none⟩ (.slice A' (kb + 1) c')) (w.heap.size + 1) 71 #[.map (some w.heap.size), .slice none 0 0, .bool ovn, .bool false] := Bk.far (show Bk W' (w.heap.size + 1) 71 #[.map (some w.heap.size), .slice none 0 0, .bool ovn, .bool false] from (hg5.block _ H4.out.2.1.lt (fun c => hnotJ c.symm)).trans H4.out.2.1) (by dsimp only; omega) _
              have hM6 : MapV (W'.setCell ⟨d.J i, 1, none⟩ (.slice A' (kb + 1) c')) w.heap.size (wsn ++ [y]) (fun _ => .int .i64 1) := (H4.out.2.2.1.keep (hg5.block _ H4.out.2.2.1.lt (fun c => hnotB c.symm))).keep (Below.heap_setCell W' _ _ _ (by dsimp only; omega))
              have hE6 : Eff w (W'.setCell ⟨d.J i, 1, none⟩ (.slice A' (kb + 1) c')) (Foot d s) := (H4.out.2.2.2.1.grown hg5 (fun b hb => by
                rcases H3.out.2.2.2.2.1 i hi b hb with c | c
                · exact Or.inl (Or.inr (Or.inr ⟨i, hi, Or.inr (Or.inr c)⟩))
                · exact Or.inr c)).setCell _ _ (Or.inl (Or.inr (Or.inr ⟨i, hi, Or.inl rfl⟩)))
              have hO6 : ∀ q, q < s.N → ∀ b, (upd bk' i (.slice A' (kb + 1) c') q).ownBlock = some b → (d.bk q).ownBlock = some b ∨ w.heap.size ≤ b := fun q hq b hb => by
                by_cases c : q = i
                · subst c
                  rw [upd_same] at hb
                  rcases hr5 b hb with c2 | c2
                  · exact H3.out.2.2.2.2.1 q hq b c2
                  · exact Or.inr (Nat.le_trans H4.out.2.2.2.1.size c2)
                · rw [upd_other _ _ c] at hb
                  exact H3.out.2.2.2.2.1 q hq b hb
              have H6 := Lib.hid (show _ ∧ _ ∧ _ ∧ _ ∧ _ from ⟨hG6, hJ6, hM6, hE6, hO6⟩)
              clear hg5 hF5 hr5 hrw q1 hG6 hJ6 hM6 hE6 hO6 hnotJ hnotB c14
              go_wp2_with fail
              go_roundg (n - (j + 1))
              case measure => omega
              case rel =>
                have hfirst : ¬ ∃ p, p < j ∧ e p = (s.id i : Int) := fun ⟨p, hp, e1⟩ => hyn2.out ((H3.out.2.2.2.2.2.2.1 y).2 ⟨⟨i, hi, by rw [hy.out], hov.out⟩, p, hp, by rw [e1, hy.out]⟩)
                refine ⟨j + 1, by omega, rfl, by go_num, _, _, ovn, wsn ++ [y], Lib.hid ⟨H6.out.1, H6.out.2.1, H6.out.2.2.1, H6.out.2.2.2.1, H6.out.2.2.2.2, hbad.out, fun z => ?_, by rw [List.length_append, List.length_singleton]; have := H3.out.2.2.2.2.2.2.2.1; omega, fun q hq => ?_⟩⟩
                · rw [List.mem_append, List.mem_singleton, H3.out.2.2.2.2.2.2.1]
                  constructor
                  · rintro (⟨h1, p, hp, e1⟩ | h1)
                    · exact ⟨h1, p, by omega, e1⟩
                    · subst h1
                      exact ⟨⟨i, hi, by rw [hy.out], hov.out⟩, j, by omega, by rw [← HEI.out, hy.out]⟩
                  · rintro ⟨h1, p, hp, e1⟩
                    by_cases c : p = j
                    · right
                      rw [c, ← HEI.out, hy.out] at e1
                      omega
                    · exact Or.inl ⟨h1, p, by omega, e1⟩
                · obtain ⟨h1, h2⟩ := H3.out.2.2.2.2.2.2.2.2 q hq
                  by_cases c : q = i
                  · subst c
                    rw [upd_same]
                    refine ⟨fun _ => by rw [h2 (fun h => hfirst h.2)], fun h3 => absurd ⟨hov.out, j, by omega, HEI.out.symm⟩ h3⟩
                  · rw [upd_other _ _ c]
                    refine ⟨fun ⟨ho, p, hp, e1⟩ => ?_, fun h3 => h2 fun ⟨ho, p, hp, e1⟩ => h3 ⟨ho, p, by omega, e1⟩⟩
                    by_cases c2 : p = j
                    · rw [c2] at e1
                      exact absurd (HS.out q hq e1.symm) c
                    · exact h1 ⟨ho, p, by omega, e1⟩
        · obtain rfl : n = j := by omega
          obtain ⟨f5, hm5, hf5⟩ := H3.out.1.m
          have hk64 : Nat64 k := by unfold Nat64; have := hx64.2; omega
          have hil : s.ids.length = s.N := by unfold GS.ids; simp
          have hl5 : s.ids.length ≤ 1000000 := by omega
          obtain ⟨w5, hput, hM5, hg5⟩ := hm5.put Try.underlying65 hk64 hnot.out.1 hl5 (.pointer (some ⟨w.heap.size + 1, 0, none⟩))
          have hNJ := foot_job H3.out.1 H3.out.2.1 (fun q hq => by have := (H.out.1.j q hq).lt; show _ ≠ d.J q; omega)
          have hNB := foot_map H3.out.1 H3.out.2.2.1 (fun e1 => by have := (H.out.1.foot_lt d.M (Or.inr (Or.inl rfl))).2; have : w.heap.size = d.M := e1; omega) (fun q hq e1 => by have := (H.out.1.b q hq).lt; have : w.heap.size = d.B q := e1; omega)
          have hG5 := H3.out.1.add (k := k) H3.out.2.1 H3.out.2.2.1 hNJ hNB ⟨Nat.le_trans hb0 (by omega), hb0⟩ hg5 ⟨_, hM5, fun q hq => by rw [upd_other _ _ (fun c => hnot.out.1 (mem_ids.2 ⟨q, hq, c⟩))]; exact hf5 q hq, upd_same _ _ _⟩
          have hE5 := H3.out.2.2.2.1.grown hg5 (fun b hb => Or.inl (by simp only [Option.some.injEq] at hb; exact Or.inr (Or.inl hb.symm)))
          have n25 : w5.cell? ⟨w.heap.size + 1, 2, none⟩ = some (.bool ovn) := by
            have hMJ : d.M < w.heap.size := (H.out.1.foot_lt d.M (Or.inr (Or.inl rfl))).2
            have hJ5 : Bk w5 (w.heap.size + 1) 71 #[.map (some w.heap.size), .slice none 0 0, .bool ovn, .bool false] := (hg5.block _ H3.out.2.1.lt (fun c => by simp only [Option.some.injEq] at c; have : w.heap.size + 1 = d.M := c; omega)).trans H3.out.2.1
            exact hJ5.cell rfl
          have cG : wr.cell? ⟨d.G, 0, none⟩ = some (.map (some d.M)) := H3.out.1.g.cell rfl
          have H5 := Lib.hid (show _ ∧ _ from ⟨hG5, hE5⟩)
          clear hM5 hg5 hm5 hf5 hNJ hNB hG5 hE5
          go_wp2_with fail
          go_ret2
          refine Or.inr ⟨hk1, hnot.out.2, HJ.out, k, ovn, _, _, rfl, rfl, H5.out.1, ⟨rfl, rfl, rfl, rfl, H3.out.2.2.2.2.2.1, fun q hq => upd_other _ _ (by omega), fun y => ?_, ?_, fun q hq => ?_, upd_same _ _ _⟩, rfl, ?_, H5.out.2⟩
          · show y ∈ upd s.ws s.N wsn s.N ↔ _
            rw [upd_same]; exact H3.out.2.2.2.2.2.2.1 y
          · show (upd s.ws s.N wsn s.N).length ≤ n
            rw [upd_same]; exact H3.out.2.2.2.2.2.2.2.1
          · have h0 := H3.out.2.2.2.2.2.2.2.2 q hq
            exact ⟨fun h => (upd_other _ _ (by omega)).trans (h0.1 h), fun h => (upd_other _ _ (by omega)).trans (h0.2 h)⟩
          · rintro g (e1 | e1 | ⟨q, hq, e1⟩)
            · exact Or.inl (Or.inl e1)
            · exact Or.inl (Or.inr (Or.inl e1))
            · have hq : q < s.N + 1 := hq
              change g = upd d.J s.N (w.heap.size + 1) q ∨ g = upd d.B s.N w.heap.size q ∨ (upd bk' s.N (.slice none 0 0) q).ownBlock = some g at e1
              by_cases c : q = s.N
              · subst c
                rw [upd_same, upd_same, upd_same] at e1
                rcases e1 with e1 | e1 | e1
                · exact Or.inr (by omega)
                · exact Or.inr (by omega)
                · simp [Value.ownBlock] at e1
              · rw [upd_other _ _ c, upd_other _ _ c, upd_other _ _ c] at e1
                have hq2 : q < s.N := by omega
                rcases e1 with e1 | e1 | e1
                · exact Or.inl (Or.inr (Or.inr ⟨q, hq2, Or.inl e1⟩))
                · exact Or.inl (Or.inr (Or.inr ⟨q, hq2, Or.inr (Or.inl e1)⟩))
                · rcases H3.out.2.2.2.2.1 q hq2 g e1 with c2 | c2
                  · exact Or.inl (Or.inr (Or.inr ⟨q, hq2, Or.inr (Or.inr c2)⟩))
                  · exact Or.inr c2
end Go.Proofs.Ytecimlbdcldkdaa
