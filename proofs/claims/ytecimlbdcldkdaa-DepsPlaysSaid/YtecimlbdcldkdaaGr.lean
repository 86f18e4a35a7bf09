/- Walks of deps.New, Ready, Waits. -/
import Derived.Test.YtecimlbdcldkdaaGm
import Derived.Carry
namespace Go.Proofs.Ytecimlbdcldkdaa
open Go.RowKit Go.Maps Dep

theorem sort_frp {w : World} {base : Nat} {A : Option Addr} {m cap : Nat} {l : List Nat} (h : FR w base (.slice A m cap) l) (hm : m ≤ 1000000) :
    Calls Try.prog 31 #[.slice A m cap] w fun e w' => e = .returned (.tuple #[]) ∧ ∃ l', FR w' base (.slice A m cap) l' ∧ l'.Pairwise (· ≤ ·) ∧ l'.Perm l ∧ w.grownBy w' (Value.slice A m cap).ownBlock := by
  have hlen := h.len
  rcases h with ⟨e, rfl⟩ | ⟨g, o, cap', cs, e, h1, h2, h3, h4, h5, h6⟩
  · simp only [Value.slice.injEq] at e
    obtain ⟨rfl, rfl, rfl⟩ := e
    refine (Any.slices_Sort_int_none Try.lays189 none 0 w).mono ?_
    rintro e w' ⟨rfl, rfl⟩
    exact ⟨rfl, [], Or.inl ⟨rfl, rfl⟩, List.Pairwise.nil, List.Perm.refl _, World.grownBy.refl _ _⟩
  · simp only [Value.slice.injEq] at e
    obtain ⟨rfl, rfl, rfl⟩ := e
    have hH : Sort.Holds (Value.int .i64) w g o (ints l).toArray := fun j hj => by
      have hj' : j < l.length := by simpa [ints_len] using hj
      refine ⟨h2.cell ?_, h2.free _⟩
      rw [h6 j l[j] (List.getElem?_eq_getElem hj')]
      have : (ints l).toArray[j]! = ((l[j] : Nat) : Int) := by
        rw [getElem!_pos _ j hj]
        have := ints_get l j hj'
        rw [List.getElem?_eq_getElem (by rw [ints_len]; exact hj')] at this
        simpa using this
      rw [this]
    have hc := Any.slices_Sort_int Try.lays189 g o cap (ints l) w hH h2.lt (by rw [ints_len]; omega)
    rw [ints_len] at hc
    refine hc.mono ?_
    rintro e w' ⟨rfl, q, os, rfl⟩
    have hperm := List.mergeSort_perm (ints l) (fun x y => decide (x ≤ y))
    have hnn : ∀ x ∈ (ints l).mergeSort (fun x y => decide (x ≤ y)), 0 ≤ x := fun x hx => by
      have := hperm.mem_iff.1 hx
      unfold ints at this
      rw [List.mem_map] at this
      obtain ⟨y, _, rfl⟩ := this
      omega
    have hs := List.pairwise_mergeSort (le := fun x y : Int => decide (x ≤ y)) (fun a b c h1 h2 => by simp at *; omega) (fun a b => by simp; omega) (ints l)
    have hl2 : ((ints l).mergeSort (fun x y => decide (x ≤ y))).length = l.length := by rw [hperm.length_eq, ints_len]
    generalize (ints l).mergeSort (fun x y => decide (x ≤ y)) = z at *
    obtain ⟨cs', a1, a2, a3⟩ := (h2.ahead q).putRow (off := o) z.toArray
    refine ⟨rfl, z.map Int.toNat, Or.inr ⟨g, o, cap, cs', by rw [List.length_map, hl2], h1, a1.grow os, by rw [List.length_map, hl2]; exact h3, by omega, by omega, fun j x hj => ?_⟩, ?_, ?_, putRow_grown w g o z.toArray q os⟩
    · have hjl := (List.getElem?_eq_some_iff.1 hj).1
      rw [List.length_map] at hjl
      rw [a3, if_pos ⟨by omega, by simp; omega, by omega⟩]
      congr 2
      rw [show o + j - o = j by omega, getElem!_pos _ j (by simpa using hjl)]
      rw [List.getElem?_map, List.getElem?_eq_getElem hjl] at hj
      simp only [Option.map_some, Option.some.injEq] at hj
      have := hnn z[j] (List.getElem_mem hjl)
      simp only [List.getElem_toArray]
      omega
    · rw [List.pairwise_map]
      exact hs.imp fun h => by simp at h; omega
    · have h := hperm.map Int.toNat
      have e : (ints l).map Int.toNat = l := by
        unfold ints
        rw [List.map_map]
        exact (List.map_congr_left (g := id) fun x _ => by simp).trans (List.map_id l)
      rw [e] at h
      exact h
theorem rise_of {l l' : List Nat} (h : l'.Pairwise (· ≤ ·)) (hp : l'.Perm l) (hn : l.Nodup) : l'.Pairwise (· < ·) := by
  have hn' : l'.Nodup := hp.nodup_iff.2 hn
  unfold List.Nodup at hn'
  exact (h.and hn').imp fun h => by omega

def GS.none : GS := ⟨0, fun _ => 0, fun _ => false, fun _ => false, fun _ => [], fun _ => []⟩
set_option maxHeartbeats 1000000 in
theorem new_any (w : World) : Calls Try.prog 19 #[] w fun e w' => ∃ d, e = .returned (.pointer (some ⟨d.G, 0, none⟩)) ∧ Gm w' w.heap.size d GS.none ∧ Below w.heap.size w w' := by
  have hmm := @run_makeMap Try.prog
  go_enter Try.func19, Try.ntmps19
  go_wp2_with fail
  go_ret
  refine ⟨⟨w.heap.size + 1, w.heap.size, fun _ => 0, fun _ => 0, fun _ => .slice none 0 0⟩, rfl, ⟨Bk.newAt (by simp), ⟨fun _ => .pointer none, (MapV.made w _).keep (Below.heap_alloc _ _ _ (by simp)), fun i hi => ?_⟩, fun i hi => ?_, fun i hi => ?_, ⟨fun i hi => ?_, fun i hi => ?_⟩, fun i hi => ?_, fun i hi => ?_, fun i hi => ?_, ⟨by simp, Nat.le_refl _, fun i hi => ?_⟩⟩, ((Below.refl w.heap.size w).alloc (Nat.le_refl _) _).alloc (by simp) _⟩
  all_goals exact absurd hi (Nat.not_lt_zero _)

/-- what Ready tells -/
def ReadySaid (s : GS) (w : World) (e : Ending) (w' : World) : Prop :=
  ∃ A m c l, e = .returned (.slice A m c) ∧ FR w' w.heap.size (.slice A m c) l ∧ l.Pairwise (· < ·) ∧ (∀ x, x ∈ l ↔ ∃ i, i < s.N ∧ s.id i = x ∧ s.ov i = false ∧ s.ws i = []) ∧ Below w.heap.size w w'

theorem ready_nil (w : World) : Calls Try.prog 21 #[.pointer none] w fun e w' => e = .returned (.slice none 0 0) ∧ w' = w := by
  go_enter Try.func21, Try.ntmps21
  go_wp2_with fail
  go_ret
  exact ⟨rfl, rfl⟩

set_option maxRecDepth 100000 in
set_option maxHeartbeats 4000000 in
theorem ready_any {w : World} {base : Nat} {d : GD} {s : GS} (h : Gm w base d s) (hN : s.N ≤ 1000) : Calls Try.prog 21 #[.pointer (some ⟨d.G, 0, none⟩)] w (ReadySaid s w) := by
  obtain ⟨f, hm, hf⟩ := h.m
  have H := Lib.hid (show _ ∧ _ ∧ _ from ⟨h, hm, hf⟩)
  have c0 := h.g.cell (i := 0) rfl
  clear h hm hf
  go_enter Try.func21, Try.ntmps21
  go_wp2_with (at_range; refine wpList_range_V H.out.2.1 Try.underlying65 rfl _ rfl rfl ?_)
  intro w0 hR0 hg0 hs0
  have HR0 := Lib.hid (show _ ∧ _ ∧ _ from ⟨hR0, hg0, hs0⟩)
  clear hR0 hg0 hs0
  go_wp2_with fail
  go_loopg [3] s.N (fun g s3 wr => ∃ A m c done l, s3 = .slice A m c ∧ g = s.N - done.length ∧
    Hid (RangV wr d.M w.heap.size s.ids f done ∧ FR wr (w.heap.size + 1) (.slice A m c) l ∧ l.Nodup ∧ (∀ x, x ∈ l ↔ x ∈ done ∧ ∃ i, i < s.N ∧ s.id i = x ∧ s.ov i = false ∧ s.ws i = []) ∧ Gm wr base d s ∧ Below w.heap.size w wr ∧ w.heap.size < wr.heap.size))
  case atStart =>
    exact ⟨none, 0, 0, [], [], rfl, by simp, Lib.hid ⟨HR0.out.1, Or.inl ⟨rfl, rfl⟩, List.nodup_nil, fun x => by simp, H.out.1.grown HR0.out.2.1 (fun b _ => by simp), (Below.refl w.heap.size w).grown HR0.out.2.1 (Nat.le_refl _) (fun k hk => by cases hk), by have := HR0.out.2.2; omega⟩⟩
  case round =>
    obtain ⟨A, m, c, done, l, rfl, hg, H2⟩ := hrel
    have hsub := H2.out.1.sub
    have hil : s.ids.length = s.N := by unfold GS.ids; simp
    have hdl : done.length ≤ s.N := by rw [← hil]; exact nodup_sub_len hsub.1 hsub.2
    have hml : m ≤ 1000000 := by
      have h1 := H2.out.2.1.len
      have h2 := nodup_sub_len (l2 := done) H2.out.2.2.1 fun x hx => ((H2.out.2.2.2.1 x).1 hx).1
      omega
    clear hsub
    go_wp2_with (at_next; refine wpList_next_V H2.out.1 rfl _ rfl rfl ?_ ?_)
    · intro hall
      have HA := Lib.hid hall
      clear hall
      have C := Lib.hid (sort_frp H2.out.2.1 hml)
      go_wp2_with fail
      refine C.out.mono ?_
      rintro x5 w5 ⟨rfl, l', hF, hp, hpm, hg5⟩
      have hb5 := H2.out.2.2.2.2.2.1.grown hg5 H2.out.2.2.2.2.2.1.size fun k hk => by have := (H2.out.2.1.lt k hk).1; omega
      have H5 := Lib.hid (show _ ∧ _ ∧ _ ∧ _ from ⟨hF, hp, hpm, hb5⟩)
      clear C hF hp hpm hg5 hb5
      go_wp2_with fail
      go_ret
      refine ⟨A, m, c, l', rfl, H5.out.1.mono (by omega), rise_of H5.out.2.1 H5.out.2.2.1 H2.out.2.2.1, fun x => ?_, H5.out.2.2.2⟩
      rw [H5.out.2.2.1.mem_iff, H2.out.2.2.2.1]
      constructor
      · exact fun h => h.2
      · rintro ⟨i, hi, e, h1⟩
        exact ⟨HA.out x (mem_ids.2 ⟨i, hi, e⟩), i, hi, e, h1⟩
    · intro k w1 hk hkd hR1 hg1 hs1 hen
      obtain ⟨i, hi, rfl⟩ := mem_ids.1 hk
      rw [H.out.2.2 i hi] at hen ⊢
      have hGm1 : Gm w1 base d s := H2.out.2.2.2.2.1.grown hg1 fun b hb c => by
        have := (H.out.1.foot_lt b hb).2
        simp only [Option.some.injEq] at c
        omega
      have hj1 := hGm1.j i hi
      have c0 : w1.cell? ⟨d.J i, 0, none⟩ = some (.map (some (d.B i))) := hj1.cell rfl
      have c2 : w1.cell? ⟨d.J i, 2, none⟩ = some (.bool (s.ov i)) := hj1.cell rfl
      have hlen := (hGm1.b i hi).len Try.underlying69 3
      have hFR1 : FR w1 (w.heap.size + 1) (.slice A m c) l := H2.out.2.1.keep fun g hg2 hl => hg1.block g hl fun e => by
        have := (H2.out.2.1.lt g hg2).1
        simp only [Option.some.injEq] at e
        omega
      have hB1 : Below w.heap.size w w1 := H2.out.2.2.2.2.2.1.grown hg1 H2.out.2.2.2.2.2.1.size fun k hk => by simp only [Option.some.injEq] at hk; omega
      have H3 := Lib.hid (show _ ∧ _ ∧ _ ∧ _ ∧ _ from ⟨hR1, hGm1, hFR1, hB1, hs1⟩)
      have HK := Lib.hid (show _ ∧ _ from ⟨hk, hkd⟩)
      clear hR1 hg1 hs1 hGm1 hj1 hFR1 hB1 hk hkd
      obtain ⟨ovi, hov⟩ : ∃ b, Hid (s.ov i = b) := ⟨_, Lib.hid rfl⟩
      obtain ⟨q, hq⟩ : ∃ q, Hid ((s.ws i).length = q) := ⟨_, Lib.hid rfl⟩
      rw [hov.out] at c2
      rw [hq.out] at hlen
      obtain ⟨x, hx⟩ : ∃ x, Hid (s.id i = x) := ⟨_, Lib.hid rfl⟩
      rw [hx.out] at hen ⊢
      have hno : ¬ (ovi = false ∧ q = 0) → ∀ l0 : List Nat, (∀ y, y ∈ l0 ↔ y ∈ done ∧ ∃ i, i < s.N ∧ s.id i = y ∧ s.ov i = false ∧ s.ws i = []) → ∀ y, y ∈ l0 ↔ y ∈ done ++ [x] ∧ ∃ i, i < s.N ∧ s.id i = y ∧ s.ov i = false ∧ s.ws i = [] := fun hne l0 h0 y => by
        rw [h0 y, List.mem_append, List.mem_singleton]
        constructor
        · rintro ⟨h1, h2⟩; exact ⟨Or.inl h1, h2⟩
        · rintro ⟨h1 | h1, h2⟩
          · exact ⟨h1, h2⟩
          · obtain ⟨k, hk, e, h3, h4⟩ := h2
            rw [h1, ← hx.out] at e
            have := H.out.1.inj hk hi e
            subst this
            exact absurd ⟨by rw [← hov.out]; exact h3, by rw [← hq.out, h4]; rfl⟩ hne
      have HNO := Lib.hid hno
      clear hno
      have hd1 : done.length + 1 ≤ s.N := by
        have h1 := H3.out.1.sub
        have h2 := nodup_sub_len h1.1 h1.2
        rw [hil, List.length_append, List.length_singleton] at h2
        exact h2
      have hlt1 : w.heap.size < w1.heap.size := by have := H3.out.2.2.2.2; have := H2.out.2.2.2.2.2.2; omega
      have hR1 : Hid (RangV w1 d.M w.heap.size s.ids f (done ++ [x])) := Lib.hid (by rw [← hx.out]; exact H3.out.1)
      cases ovi with
      | true =>
        go_wp2_with fail
        go_roundg (s.N - (done.length + 1))
        case measure => omega
        case rel => exact ⟨A, m, c, done ++ [x], l, rfl, by rw [List.length_append]; rfl, Lib.hid ⟨hR1.out, H3.out.2.2.1, H2.out.2.2.1, HNO.out (by simp) l H2.out.2.2.2.1, H3.out.2.1, H3.out.2.2.2.1, hlt1⟩⟩
      | false =>
        by_cases hq0 : q = 0
        · subst hq0
          go_wp2_with (at_builtin; refine wpList_frpush H3.out.2.2.1 (k := x) hml (by omega) rfl _ _ rfl rfl rfl rfl ?_)
          intro A' c' W' hg5 hF5 hr5
          have hown : ∀ b, (Value.slice A m c).ownBlock = some b → w.heap.size + 1 ≤ b := fun b hb => (H3.out.2.2.1.lt b hb).1
          have hGm5 : Gm W' base d s := H3.out.2.1.grown hg5 fun b hb c => by
            have := (H.out.1.foot_lt b hb).2
            have := hown b c
            omega
          have hR5 : RangV W' d.M w.heap.size s.ids f (done ++ [x]) := hR1.out.keep (hg5.block _ hR1.out.ltb fun c => by
            have := hown _ c.symm
            have := (H.out.1.foot_lt d.M (Or.inr (Or.inl rfl))).2
            omega) (hg5.block _ hR1.out.ltr fun c => by have := hown _ c.symm; omega)
          have hB5 := H3.out.2.2.2.1.grown hg5 H3.out.2.2.2.1.size fun b hb => by have := hown b hb; omega
          have H5 := Lib.hid (show _ ∧ _ ∧ _ ∧ _ ∧ _ from ⟨hR5, hF5, hGm5, hB5, hg5.size⟩)
          clear hg5 hF5 hr5 hown hGm5 hR5 hB5
          go_wp2_with fail
          go_roundg (s.N - (done.length + 1))
          case measure => omega
          case rel =>
            refine ⟨A', m + 1, c', done ++ [x], l ++ [x], rfl, by rw [List.length_append]; rfl, Lib.hid ⟨H5.out.1, H5.out.2.1, ?_, fun y => ?_, H5.out.2.2.1, H5.out.2.2.2.1, by have := H5.out.2.2.2.2; omega⟩⟩
            · rw [List.nodup_append]
              refine ⟨H2.out.2.2.1, by simp, fun y hy z hz e => ?_⟩
              simp at hz
              rw [e, hz] at hy
              exact HK.out.2 (by rw [hx.out]; exact ((H2.out.2.2.2.1 x).1 hy).1)
            · rw [List.mem_append, List.mem_singleton, H2.out.2.2.2.1, List.mem_append, List.mem_singleton]
              constructor
              · rintro (⟨h1, h2⟩ | h1)
                · exact ⟨Or.inl h1, h2⟩
                · exact ⟨Or.inr h1, i, hi, by rw [hx.out, h1], hov.out, List.eq_nil_of_length_eq_zero hq.out⟩
              · rintro ⟨h1 | h1, h2⟩
                · exact Or.inl ⟨h1, h2⟩
                · exact Or.inr h1
        · have hq1 : ((q : Int) == 0) = false := by simp [hq0]
          go_wp2_with fail
          go_roundg (s.N - (done.length + 1))
          case measure => omega
          case rel => exact ⟨A, m, c, done ++ [x], l, rfl, by rw [List.length_append]; rfl, Lib.hid ⟨hR1.out, H3.out.2.2.1, H2.out.2.2.1, HNO.out (fun h => hq0 h.2) l H2.out.2.2.2.1, H3.out.2.1, H3.out.2.2.2.1, hlt1⟩⟩

/-- what Waits tells -/
def WaitsSaid (s : GS) (x : Int) (w : World) (e : Ending) (w' : World) : Prop :=
  ∃ A m c l, e = .returned (.slice A m c) ∧ FR w' w.heap.size (.slice A m c) l ∧ l.Pairwise (· < ·) ∧ (∀ y, y ∈ l ↔ ∃ i, i < s.N ∧ (s.id i : Int) = x ∧ s.ov i = false ∧ y ∈ s.ws i) ∧ Below w.heap.size w w'

theorem waits_nil (w : World) (x : Int) : Calls Try.prog 27 #[.pointer none, .int .i64 x] w fun e w' => e = .returned (.slice none 0 0) ∧ w' = w := by
  go_enter Try.func27, Try.ntmps27
  go_wp2_with fail
  go_ret
  exact ⟨rfl, rfl⟩
theorem zeroJob (w : World) : (zeroValue 68).run Try.prog w = .ok (.pointer none) w := by kernel_rfl

set_option maxRecDepth 100000 in
set_option maxHeartbeats 4000000 in
theorem waits_any {w : World} {base : Nat} {d : GD} {s : GS} (h : Gm w base d s) (hW : ∀ i, i < s.N → (s.ws i).length ≤ 1000) (x : Int) (hx64 : In64 x) : Calls Try.prog 27 #[.pointer (some ⟨d.G, 0, none⟩), .int .i64 x] w (WaitsSaid s x w) := by
  obtain ⟨f, hm, hf⟩ := h.m
  have H := Lib.hid (show _ ∧ _ ∧ _ from ⟨h, hm, hf⟩)
  have cG := h.g.cell (i := 0) rfl
  clear h hf
  by_cases hin : ∃ k ∈ s.ids, x = (k : Int)
  · obtain ⟨k, hk, rfl⟩ := hin
    obtain ⟨i, hi, rfl⟩ := mem_ids.1 hk
    have hlook := hm.look Try.underlying65 (zeroJob w) hk
    rw [H.out.2.2 i hi] at hlook
    have hj := H.out.1.j i hi
    have c0 : w.cell? ⟨d.J i, 0, none⟩ = some (.map (some (d.B i))) := hj.cell rfl
    have c2 : w.cell? ⟨d.J i, 2, none⟩ = some (.bool (s.ov i)) := hj.cell rfl
    obtain ⟨ovi, hov⟩ : ∃ b, Hid (s.ov i = b) := ⟨_, Lib.hid rfl⟩
    obtain ⟨x, hx⟩ : ∃ x, Hid (s.id i = x) := ⟨_, Lib.hid rfl⟩
    rw [hov.out] at c2
    rw [hx.out] at hlook ⊢
    clear hm hj hk
    cases ovi with
    | true =>
      go_enter Try.func27, Try.ntmps27
      go_wp2_with fail
      go_ret
      refine ⟨none, 0, 0, [], rfl, Or.inl ⟨rfl, rfl⟩, List.Pairwise.nil, fun y => ⟨fun h => (by cases h), ?_⟩, Below.refl _ _⟩
      rintro ⟨k, hk, e, ho, _⟩
      have : k = i := H.out.1.inj hk hi (by rw [hx.out]; omega)
      subst this
      rw [hov.out] at ho
      cases ho
    | false =>
      have hWl := hW i hi
      go_enter Try.func27, Try.ntmps27
      go_wp2_with (at_range; refine wpList_range_V (H.out.1.b i hi) Try.underlying69 rfl _ rfl rfl ?_)
      intro w0 hR0 hg0 hs0
      have HR0 := Lib.hid (show _ ∧ _ ∧ _ from ⟨hR0, hg0, hs0⟩)
      clear hR0 hg0 hs0
      go_wp2_with fail
      go_loopg [5] (s.ws i).length (fun g s5 wr => ∃ A m c done, s5 = .slice A m c ∧ g = (s.ws i).length - done.length ∧
        Hid (RangV wr (d.B i) w.heap.size (s.ws i) (fun _ => .int .i64 1) done ∧ FR wr (w.heap.size + 1) (.slice A m c) done ∧ Below w.heap.size w wr ∧ w.heap.size < wr.heap.size))
      case atStart => exact ⟨none, 0, 0, [], rfl, by simp, Lib.hid ⟨HR0.out.1, Or.inl ⟨rfl, rfl⟩, (Below.refl w.heap.size w).grown HR0.out.2.1 (Nat.le_refl _) (fun k hk => by cases hk), by have := HR0.out.2.2; omega⟩⟩
      case round =>
        obtain ⟨A, m, c, done, rfl, hg, H2⟩ := hrel
        have hml : m ≤ 1000000 := by
          have h1 := H2.out.2.1.len
          have h2 := H2.out.1.sub
          have h3 := nodup_sub_len h2.1 h2.2
          omega
        go_wp2_with (at_next; refine wpList_next_V H2.out.1 rfl _ rfl rfl ?_ ?_)
        · intro hall
          have HA := Lib.hid hall
          clear hall
          have C := Lib.hid (sort_frp H2.out.2.1 hml)
          go_wp2_with fail
          refine C.out.mono ?_
          rintro x5 w5 ⟨rfl, l', hF, hp, hpm, hg5⟩
          have hb5 := H2.out.2.2.1.grown hg5 H2.out.2.2.1.size fun k hk => by have := (H2.out.2.1.lt k hk).1; omega
          have H5 := Lib.hid (show _ ∧ _ ∧ _ ∧ _ from ⟨hF, hp, hpm, hb5⟩)
          clear C hF hp hpm hg5 hb5
          go_wp2_with fail
          go_ret
          refine ⟨A, m, c, l', rfl, H5.out.1.mono (by omega), rise_of H5.out.2.1 H5.out.2.2.1 H2.out.1.sub.1, fun y => ?_, H5.out.2.2.2⟩
          rw [H5.out.2.2.1.mem_iff]
          constructor
          · intro h; exact ⟨i, hi, by rw [hx.out], hov.out, H2.out.1.sub.2 y h⟩
          · rintro ⟨k, hk, e, _, hy⟩
            have : k = i := H.out.1.inj hk hi (by rw [hx.out]; omega)
            subst this
            exact HA.out y hy
        · intro k w1 hk hkd hR1 hg1 hs1 hen
          have hFR1 : FR w1 (w.heap.size + 1) (.slice A m c) done := H2.out.2.1.keep fun g hg2 hl => hg1.block g hl fun e => by
            have := (H2.out.2.1.lt g hg2).1
            simp only [Option.some.injEq] at e
            omega
          have hB1 : Below w.heap.size w w1 := H2.out.2.2.1.grown hg1 H2.out.2.2.1.size fun k hk => by simp only [Option.some.injEq] at hk; omega
          have hlt1 : w.heap.size + 1 ≤ w1.heap.size := by have := H2.out.2.2.2; omega
          have H3 := Lib.hid (show _ ∧ _ ∧ _ from ⟨hR1, hFR1, hB1⟩)
          have hd1 : done.length + 1 ≤ (s.ws i).length := by
            have h1 := hR1.sub
            have h2 := nodup_sub_len h1.1 h1.2
            rw [List.length_append, List.length_singleton] at h2
            exact h2
          clear hR1 hg1 hs1 hFR1 hB1 hk hkd
          go_wp2_with (at_builtin; refine wpList_frpush H3.out.2.1 (k := k) hml hlt1 rfl _ _ rfl rfl rfl rfl ?_)
          intro A' c' W' hg5 hF5 hr5
          have hown : ∀ b, (Value.slice A m c).ownBlock = some b → w.heap.size + 1 ≤ b := fun b hb => (H3.out.2.1.lt b hb).1
          have hR5 : RangV W' (d.B i) w.heap.size (s.ws i) (fun _ => .int .i64 1) (done ++ [k]) := H3.out.1.keep (hg5.block _ H3.out.1.ltb fun c => by
            have := hown _ c.symm
            have := (H.out.1.foot_lt (d.B i) (Or.inr (Or.inr ⟨i, hi, Or.inr (Or.inl rfl)⟩))).2
            omega) (hg5.block _ H3.out.1.ltr fun c => by have := hown _ c.symm; omega)
          have hB5 := H3.out.2.2.grown hg5 H3.out.2.2.size fun b hb => by have := hown b hb; omega
          have H5 := Lib.hid (show _ ∧ _ ∧ _ ∧ _ from ⟨hR5, hF5, hB5, hg5.size⟩)
          clear hg5 hF5 hr5 hown hR5 hB5
          go_wp2_with fail
          go_roundg ((s.ws i).length - (done.length + 1))
          case measure => omega
          case rel => exact ⟨A', m + 1, c', done ++ [k], rfl, by rw [List.length_append]; rfl, Lib.hid ⟨H5.out.1, H5.out.2.1, H5.out.2.2.1, by have := H5.out.2.2.2; omega⟩⟩
  · have hlook := hm.lookNot Try.underlying65 (zeroJob w) hx64 (fun k hk e => hin ⟨k, hk, e⟩)
    clear hm
    go_enter Try.func27, Try.ntmps27
    go_wp2_with fail
    go_ret
    refine ⟨none, 0, 0, [], rfl, Or.inl ⟨rfl, rfl⟩, List.Pairwise.nil, fun y => ⟨fun h => (by cases h), ?_⟩, Below.refl _ _⟩
    rintro ⟨k, hk, e, _⟩
    exact absurd ⟨s.id k, mem_ids.2 ⟨k, hk, rfl⟩, e.symm⟩ hin
end Go.Proofs.Ytecimlbdcldkdaa
