/- Walk of Finish's doom. -/
import Derived.Test.YtecimlbdcldkdaaAdd
import Derived.Shelf.Abstract
import Derived.Laws.EntriesVeiled
namespace Go.Proofs.Ytecimlbdcldkdaa
open Go.RowKit Go.Maps Dep

/-- the number of jobs that are not over -/
def openN (N : Nat) (ov : Nat → Bool) : Nat := ((List.range N).filter fun k => !ov k).length
theorem openN_set {N : Nat} {ov : Nat → Bool} {k : Nat} (hk : k < N) (ho : ov k = false) : openN N (upd ov k true) < openN N ov := by
  have key : ∀ l : List Nat, l.Nodup → (l.filter fun q => !upd ov k true q).length + (if k ∈ l then 1 else 0) = (l.filter fun q => !ov q).length := by
    intro l
    induction l with
    | nil => simp
    | cons x l ih =>
      intro hn
      rw [List.nodup_cons] at hn
      have h1 := ih hn.2
      by_cases e : x = k
      · subst e
        have hx := hn.1
        rw [if_neg hx] at h1
        rw [List.filter_cons, List.filter_cons, upd_same, ho]
        simp
        omega
      · have e2 : ¬ k = x := fun c => e c.symm
        rw [List.filter_cons, List.filter_cons, upd_other _ _ e]
        simp only [List.mem_cons, e2, false_or]
        split
        · simp only [List.length_cons]; omega
        · exact h1
  have := key (List.range N) List.nodup_range
  rw [if_pos (List.mem_range.2 hk)] at this
  unfold openN
  omega
theorem openN_mono {N : Nat} {ov ov' : Nat → Bool} (h : ∀ k, ov k = true → ov' k = true) : openN N ov' ≤ openN N ov := by
  unfold openN
  rw [← List.countP_eq_length_filter, ← List.countP_eq_length_filter]
  refine List.countP_mono_left fun x _ hx => ?_
  cases c : ov x with
  | false => rfl
  | true => rw [h x c] at hx; exact hx
/-- k is reached from i along those that wait, none of them over -/
inductive Rch (N : Nat) (id : Nat → Nat) (bl : Nat → List Nat) (ov : Nat → Bool) (i : Nat) : Nat → Prop
  | one (k : Nat) (hk : k < N) (ho : ov k = false) (h : id k ∈ bl i) : Rch N id bl ov i k
  | more (j k : Nat) (hj : Rch N id bl ov i j) (hk : k < N) (ho : ov k = false) (h : id k ∈ bl j) : Rch N id bl ov i k
section
variable {N : Nat} {id : Nat → Nat} {bl : Nat → List Nat} {ov ov' : Nat → Bool} {i j k : Nat}
theorem Rch.open (h : Rch N id bl ov i k) : k < N ∧ ov k = false := by
  cases h with
  | one _ hk ho _ => exact ⟨hk, ho⟩
  | more _ _ _ hk ho _ => exact ⟨hk, ho⟩
theorem Rch.weak (h : Rch N id bl ov' i k) (ho : ∀ q, ov' q = false → ov q = false) : Rch N id bl ov i k := by
  induction h with
  | one k hk h1 h2 => exact Rch.one k hk (ho k h1) h2
  | more j k _ hk h1 h2 ih => exact Rch.more j k ih hk (ho k h1) h2
theorem Rch.head (hj : j < N) (ho : ov j = false) (hi : id j ∈ bl i) (h : Rch N id bl ov j k) : Rch N id bl ov i k := by
  induction h with
  | one k hk h1 h2 => exact Rch.more j k (Rch.one j hj ho hi) hk h1 h2
  | more q k _ hk h1 h2 ih => exact Rch.more q k ih hk h1 h2
end

def doomFn (gb db fb : Nat) : Value := .func (Fn.func 34) #[] #[.pointer (some ⟨gb, 0, none⟩), .pointer (some ⟨db, 0, none⟩), .pointer (some ⟨fb, 0, none⟩)]

/-- what doom stands on -/
structure Dm (W : World) (base : Nat) (d : GD) (s : GS) (gb db fb b2 : Nat) (v : Value) (l : List Nat) : Prop where
  gm : Gm W base d s
  g : Bk W gb 36 #[.pointer (some ⟨d.G, 0, none⟩)]
  dd : Bk W db 25 #[v]
  f : Bk W fb 72 #[doomFn gb db fb]
  row : FR W b2 v l
  foot : ∀ b, Foot d s b → b ≠ gb ∧ b ≠ db ∧ b ≠ fb ∧ b < b2
  apart : gb ≠ db ∧ gb ≠ fb ∧ db ≠ fb ∧ gb < b2 ∧ db < b2 ∧ fb < b2
/-- the graph behind more dooms: s, but for who is over -/
def DoomSaid (base : Nat) (d : GD) (s : GS) (i gb db fb b2 : Nat) (l : List Nat) (w : World) (e : Ending) (w' : World) : Prop :=
  e = .returned (.tuple #[]) ∧ ∃ ov' v' l', Dm w' base d { s with ov := ov' } gb db fb b2 v' (l ++ l') ∧ (∀ k, s.ov k = true → ov' k = true) ∧ (∀ k, k < s.N → s.ov k = false → ov' k = true → Rch s.N s.id s.bl s.ov i k) ∧
    (∀ k, k < s.N → s.id k ∈ s.bl i → ov' k = true) ∧ (∀ m k, m < s.N → s.ov m = false → ov' m = true → k < s.N → s.id k ∈ s.bl m → ov' k = true) ∧
    l'.Nodup ∧ (∀ y, y ∈ l' ↔ ∃ k, k < s.N ∧ s.id k = y ∧ s.ov k = false ∧ ov' k = true) ∧ Eff w w' (fun b => Foot d s b ∨ b = db ∨ b2 ≤ b) ∧ l'.length + openN s.N ov' ≤ openN s.N s.ov

section
variable {W W' : World} {base : Nat} {d : GD} {s : GS} {gb db fb b2 : Nat} {v : Value} {l : List Nat}
theorem Dm.setOv (h : Dm W base d s gb db fb b2 v l) {i : Nat} (hi : i < s.N) (x : Bool) : Dm (W.setCell ⟨d.J i, 2, none⟩ (.bool x)) base d { s with ov := upd s.ov i x } gb db fb b2 v l := by
  have hf := h.foot (d.J i) (Or.inr (Or.inr ⟨i, hi, Or.inl rfl⟩))
  exact ⟨h.gm.setOv hi x, h.g.far (Ne.symm hf.1) _, h.dd.far (Ne.symm hf.2.1) _, h.f.far (Ne.symm hf.2.2.1) _, h.row.keep fun g hg _ => Below.heap_setCell W _ _ _ (by have := (h.row.lt g hg).1; dsimp only; omega), h.foot, h.apart⟩
theorem Dm.push (h : Dm W base d s gb db fb b2 v l) {r : Value} {l' : List Nat} (hg : W.grownBy W' v.ownBlock) (hF : FR W' b2 r l') :
    W'.cell? ⟨db, 0, none⟩ = some v ∧ W'.frozen? ⟨db, 0, none⟩ = false ∧ Dm (W'.setCell ⟨db, 0, none⟩ r) base d s gb db fb b2 r l' := by
  have hrow : ∀ g, v.ownBlock = some g → b2 ≤ g := fun g hg => (h.row.lt g hg).1
  have hb : ∀ b, b < W.heap.size → b < b2 → W'.heap[b]? = W.heap[b]? := fun b hb hlt => hg.block b hb fun c => by have := hrow b c.symm; omega
  have hd : Bk W' db 25 #[v] := (hb _ h.dd.lt h.apart.2.2.2.2.1).trans h.dd
  refine ⟨hd.cell rfl, hd.free 0, ?_, ?_, hd.set 0 r, ?_, hF.keep fun g hg _ => Below.heap_setCell W' _ _ _ (by have := (hF.lt g hg).1; have := h.apart; dsimp only; omega), h.foot, h.apart⟩
  · exact (h.gm.keep fun b hf => hb b (h.gm.foot_lt b hf).2 (h.foot b hf).2.2.2).keep fun b hf => Below.heap_setCell W' _ _ _ (h.foot b hf).2.1
  · have hg1 : Bk W' gb 36 #[.pointer (some ⟨d.G, 0, none⟩)] := (hb _ h.g.lt h.apart.2.2.2.1).trans h.g
    exact hg1.far h.apart.1 _
  · have hf1 : Bk W' fb 72 #[doomFn gb db fb] := (hb _ h.f.lt h.apart.2.2.2.2.2).trans h.f
    exact hf1.far (Ne.symm h.apart.2.2.1) _
end

theorem Eff.trans {w w1 w2 : World} {F : Nat → Prop} (h : Eff w w1 F) (h' : Eff w1 w2 F) : Eff w w2 F :=
  ⟨h'.os.trans h.os, h'.tape.trans h.tape, h'.output.trans h.output, Nat.le_trans h.size h'.size, fun b hb hF => (h'.block b (Nat.lt_of_lt_of_le hb h.size) hF).trans (h.block b hb hF)⟩

set_option maxRecDepth 100000 in
set_option maxHeartbeats 8000000 in
theorem doom_any {base : Nat} {d : GD} {gb db fb b2 : Nat} : ∀ (q : Nat) (s : GS) (w : World) (v : Value) (l : List Nat) (i : Nat), openN s.N s.ov = q → s.N ≤ 1000 → (∀ k, k < s.N → (s.bl k).length ≤ 1000) → (∀ k, k < s.N → ∀ y ∈ s.bl k, y ∈ s.ids) → l.length + openN s.N s.ov ≤ 1000 → i < s.N → Dm w base d s gb db fb b2 v l → b2 ≤ w.heap.size →
    Calls Try.prog 34 #[.pointer (some ⟨d.J i, 0, none⟩), .pointer (some ⟨gb, 0, none⟩), .pointer (some ⟨db, 0, none⟩), .pointer (some ⟨fb, 0, none⟩)] w (DoomSaid base d s i gb db fb b2 l w) := by
  intro q
  induction q using Nat.strongRecOn with
  | ind q ih =>
    intro s w v l i hq hN hbl hids hl hi h hb2
    have IH := Lib.hid ih
    have H := Lib.hid (show _ ∧ _ ∧ _ from ⟨h, hbl, hids⟩)
    obtain ⟨Ai, ci, hrow⟩ := (h.gm.f.1 i hi).form
    have c1 : w.cell? ⟨d.J i, 1, none⟩ = some (d.bk i) := (h.gm.j i hi).cell rfl
    rw [hrow] at c1
    obtain ⟨m, hm⟩ : ∃ m, Hid ((s.bl i).length = m) := ⟨_, Lib.hid rfl⟩
    rw [hm.out] at c1 hrow
    have HROW := Lib.hid hrow
    have hm1 : (m : Int) ≤ 1000 := by have := hbl i hi; have := hm.out; omega
    clear ih h hbl hids hrow
    have eg := enters_of Try.func34 (by kernel_rfl) rfl
    go_enter Try.func34, Try.ntmps34
    go_wp2_with fail
    go_loopg [13] m (fun g s13 wr => ∃ j : Nat, j ≤ m ∧ g = m - j ∧ s13 = .int .i64 j ∧ ∃ ov' v' l', Hid (Dm wr base d { s with ov := ov' } gb db fb b2 v' (l ++ l') ∧ (∀ k, s.ov k = true → ov' k = true) ∧ (∀ k, k < s.N → s.ov k = false → ov' k = true → Rch s.N s.id s.bl s.ov i k) ∧
      (∀ p, p < j → ∀ k, k < s.N → (s.bl i)[p]? = some (s.id k) → ov' k = true) ∧ (∀ m k, m < s.N → s.ov m = false → ov' m = true → k < s.N → s.id k ∈ s.bl m → ov' k = true) ∧
      l'.Nodup ∧ (∀ y, y ∈ l' ↔ ∃ k, k < s.N ∧ s.id k = y ∧ s.ov k = false ∧ ov' k = true) ∧ Eff w wr (fun b => Foot d s b ∨ b = db ∨ b2 ≤ b) ∧ l'.length + openN s.N ov' ≤ openN s.N s.ov))
    case atStart =>
      exact ⟨0, by omega, by omega, rfl, s.ov, v, [], Lib.hid ⟨by rw [List.append_nil]; exact H.out.1, fun k hk => hk, fun k _ h1 h2 => (by rw [h1] at h2; cases h2), fun p hp => (by omega), fun m k _ h1 h2 => (by rw [h1] at h2; cases h2), List.nodup_nil, fun y => ⟨fun h => (by cases h), fun ⟨k, _, _, h1, h2⟩ => (by rw [h1] at h2; cases h2)⟩, Eff.refl _ _, by simp⟩⟩
    case round =>
      obtain ⟨j, hj, hg, rfl, ov', v', l', H2⟩ := hrel
      have j0 : (0 : Int) ≤ (j : Int) := by omega
      by_cases hjm : j < m
      · have hlt : j < (s.bl i).length := by rw [hm.out]; exact hjm
        obtain ⟨y, hy⟩ : ∃ y, (s.bl i)[j]? = some y := ⟨_, List.getElem?_eq_getElem hlt⟩
        have hFi := H2.out.1.gm.f.1 i hi
        change FR wr base (d.bk i) (s.bl i) at hFi
        rw [HROW.out] at hFi
        obtain ⟨ga, oa, rfl, ca⟩ := hFi.cellAt hy
        obtain ⟨k, hk, rfl⟩ := mem_ids.1 (H.out.2.2 i hi y (List.mem_of_getElem? hy))
        have HY := Lib.hid hy
        obtain ⟨f2, hm2, hf2⟩ := H2.out.1.gm.m
        have hlook := hm2.look Try.underlying65 (zeroJob wr) (mem_ids.2 ⟨k, hk, rfl⟩)
        have e2 : f2 (s.id k) = .pointer (some ⟨d.J k, 0, none⟩) := hf2 k hk
        have hlook' : Sem.run Try.prog (Instr.lookup 65 (.map (some d.M)) (.int .i64 (s.id k : Int)) false) wr = .ok (.pointer (some ⟨d.J k, 0, none⟩)) wr := by rw [← e2]; exact hlook
        have cG : wr.cell? ⟨d.G, 0, none⟩ = some (.map (some d.M)) := H2.out.1.gm.g.cell rfl
        have cg : wr.cell? ⟨gb, 0, none⟩ = some (.pointer (some ⟨d.G, 0, none⟩)) := H2.out.1.g.cell rfl
        have c2 : wr.cell? ⟨d.J k, 2, none⟩ = some (.bool (ov' k)) := (H2.out.1.gm.j k hk).cell rfl
        have f2' := (H2.out.1.gm.j k hk).free 2
        have j1 : (j : Int) < (m : Int) := by omega
        obtain ⟨x, hx⟩ : ∃ x, Hid (s.id k = x) := ⟨_, Lib.hid rfl⟩
        rw [hx.out] at ca hlook'
        clear hlook e2 hm2 hf2 hy hFi
        cases ho : ov' k with
        | true =>
          rw [ho] at c2
          have HO := Lib.hid ho
          clear ho
          go_wp2_with fail
          go_roundg (m - (j + 1))
          case measure => omega
          case rel =>
            refine ⟨j + 1, by omega, rfl, by go_num, ov', v', l', Lib.hid ⟨H2.out.1, H2.out.2.1, H2.out.2.2.1, fun p hp q hq e1 => ?_, H2.out.2.2.2.2⟩⟩
            by_cases c : p = j
            · rw [c, HY.out] at e1
              simp only [Option.some.injEq] at e1
              have := H.out.1.gm.inj hk hq e1
              rw [← this]; exact HO.out
            · exact H2.out.2.2.2.1 p (by omega) q hq e1
        | false =>
          rw [ho] at c2
          have HO := Lib.hid ho
          clear ho
          go_upto_region 5 with fail
          go_cut [] (fun wx => Hid (Dm wx base d { s with ov := upd ov' k true } gb db fb b2 v' (l ++ l') ∧ Eff w wx (fun b => Foot d s b ∨ b = db ∨ b2 ≤ b)))
          case first =>
            have HX := Lib.hid (show _ ∧ _ from ⟨H2.out.1.setOv hk true, H2.out.2.2.2.2.2.2.2.1.setCell ⟨d.J k, 2, none⟩ (.bool true) (Or.inl (Or.inl (Or.inr (Or.inr ⟨k, hk, Or.inl rfl⟩))))⟩)
            go_wp2_with fail
            go_meet
            exact HX
          case rest =>
            obtain ⟨Ad, cd, hrd⟩ := hcut.out.1.row.form
            obtain ⟨md, hmd⟩ : ∃ md, Hid ((l ++ l').length = md) := ⟨_, Lib.hid rfl⟩
            rw [hmd.out] at hrd
            subst hrd
            have cd0 : wc.cell? ⟨db, 0, none⟩ = some (.slice Ad md cd) := hcut.out.1.dd.cell rfl
            have hopen := openN_set (N := s.N) hk HO.out
            have hle := openN_mono (N := s.N) H2.out.2.1
            have hlen := H2.out.2.2.2.2.2.2.2.2
            have hmd2 : md ≤ 1000000 := by have := hmd.out; rw [List.length_append] at this; omega
            have hb2c : b2 ≤ wc.heap.size := Nat.le_trans hb2 hcut.out.2.size
            clear cg cG c2 f2' ca hlook'
            go_wp2_with (at_builtin; refine wpList_frpush hcut.out.1.row (k := x) hmd2 hb2c rfl _ _ rfl rfl rfl rfl ?_)
            intro A' c' W' hg5 hF5 hr5
            obtain ⟨q1, q2, hD6⟩ := hcut.out.1.push (W' := W') hg5 hF5
            have hE6 := (hcut.out.2.grown hg5 (fun b hb => Or.inl (Or.inr (Or.inr (hcut.out.1.row.lt b hb).1)))).setCell ⟨db, 0, none⟩ (.slice A' (md + 1) c') (Or.inl (Or.inr (Or.inl rfl)))
            have cf6 : (W'.setCell ⟨db, 0, none⟩ (.slice A' (md + 1) c')).cell? ⟨fb, 0, none⟩ = some (doomFn gb db fb) := hD6.f.cell rfl
            unfold doomFn at cf6
            have hsz6 := hE6.size
            have H6 := Lib.hid (show _ ∧ _ ∧ _ from ⟨hD6, hE6, hsz6⟩)
            clear hg5 hF5 hr5 hD6 hE6 hsz6 cd0
            go_wp2_with fail
            have hlt : openN s.N (upd ov' k true) < q := by omega
            have hll : (l ++ (l' ++ [x])).length + openN s.N (upd ov' k true) ≤ 1000 := by rw [List.length_append, List.length_append, List.length_singleton]; omega
            refine (IH.out _ hlt { s with ov := upd ov' k true } _ _ (l ++ (l' ++ [x])) k rfl hN H.out.2.1 H.out.2.2 hll hk H6.out.1 (Nat.le_trans hb2 H6.out.2.2)).mono ?_
            rintro x7 w7 ⟨rfl, ov7, v7, l7, d7, a7, r7, b7, c7, n7, m7, e7, k7⟩
            have H7 := Lib.hid (show _ ∧ _ ∧ _ ∧ _ ∧ _ ∧ _ ∧ _ ∧ _ ∧ _ from ⟨d7, a7, r7, b7, c7, n7, m7, e7, k7⟩)
            clear d7 a7 r7 b7 c7 n7 m7 e7 k7
            go_wp2_with fail
            go_roundg (m - (j + 1))
            case measure => omega
            case rel =>
              have hup : ∀ q, ov' q = true → ov7 q = true := fun q hq => H7.out.2.1 q (by
                show upd ov' k true q = true
                by_cases c : q = k
                · rw [c, upd_same]
                · rw [upd_other _ _ c]; exact hq)
              have hk7 : ov7 k = true := H7.out.2.1 k (upd_same _ _ _)
              have hnew : ∀ q, ov' q = false → ov7 q = true → q ≠ k → upd ov' k true q = false := fun q h1 _ h3 => by rw [upd_other _ _ h3]; exact h1
              have hsk : s.ov k = false := by
                cases c : s.ov k with
                | false => rfl
                | true => have := H2.out.2.1 k c; rw [HO.out] at this; cases this
              have hmem : s.id k ∈ s.bl i := List.mem_of_getElem? HY.out
              have hopenw : ∀ q, upd ov' k true q = false → s.ov q = false := fun q hq => by
                have hqk : q ≠ k := fun c => by rw [c, upd_same] at hq; cases hq
                rw [upd_other _ _ hqk] at hq
                cases c : s.ov q with
                | false => rfl
                | true => have := H2.out.2.1 q c; rw [hq] at this; cases this
              refine ⟨j + 1, by omega, rfl, by go_num, ov7, v7, l' ++ [x] ++ l7, Lib.hid ⟨?_, fun q hq => hup q (H2.out.2.1 q hq), fun q hq h1 h2 => ?_, fun p hp q hq e1 => ?_, fun m2 q hm2 h1 h2 hq h3 => ?_, ?_, fun y => ?_, H6.out.2.1.trans H7.out.2.2.2.2.2.2.2.1, ?_⟩⟩
              · have := H7.out.1
                simpa only [List.append_assoc] using this
              · cases c : ov' q with
                | true => exact H2.out.2.2.1 q hq h1 c
                | false =>
                  by_cases e1 : q = k
                  · rw [e1]; exact Rch.one k hk hsk hmem
                  · exact Rch.head hk hsk hmem ((H7.out.2.2.1 q hq (hnew q c h2 e1) h2).weak hopenw)
              · by_cases c : p = j
                · rw [c, HY.out] at e1
                  simp only [Option.some.injEq] at e1
                  have := H.out.1.gm.inj hk hq e1
                  rw [← this]; exact hk7
                · exact hup q (H2.out.2.2.2.1 p (by omega) q hq e1)
              · cases c : ov' m2 with
                | true => exact hup q (H2.out.2.2.2.2.1 m2 q hm2 h1 c hq h3)
                | false =>
                  by_cases e1 : m2 = k
                  · rw [e1] at h3; exact H7.out.2.2.2.1 q hq h3
                  · exact H7.out.2.2.2.2.1 m2 q hm2 (hnew m2 c h2 e1) h2 hq h3
              · rw [List.nodup_append, List.nodup_append]
                refine ⟨⟨H2.out.2.2.2.2.2.1, by simp, fun y hy z hz e1 => ?_⟩, H7.out.2.2.2.2.2.1, fun y hy z hz e1 => ?_⟩
                · simp at hz
                  rw [e1, hz] at hy
                  obtain ⟨q, hq, e2, _, e3⟩ := (H2.out.2.2.2.2.2.2.1 x).1 hy
                  have := H.out.1.gm.inj hk hq (by rw [e2, hx.out])
                  rw [← this, HO.out] at e3
                  cases e3
                · obtain ⟨q, hq, e2, e3, e4⟩ := (H7.out.2.2.2.2.2.2.1 z).1 hz
                  have e3 : upd ov' k true q = false := e3
                  have e2 : s.id q = z := e2
                  rcases List.mem_append.1 hy with h1 | h1
                  · obtain ⟨q2, hq2, e5, _, e6⟩ := (H2.out.2.2.2.2.2.2.1 y).1 h1
                    have := H.out.1.gm.inj hq hq2 (by rw [e2, e5, e1])
                    rw [← this] at e6
                    by_cases c : q = k
                    · rw [c, upd_same] at e3; cases e3
                    · rw [upd_other _ _ c, e6] at e3; cases e3
                  · simp at h1
                    have := H.out.1.gm.inj hk hq (by rw [hx.out, e2, ← e1, h1])
                    rw [← this, upd_same] at e3
                    cases e3
              · rw [List.mem_append, List.mem_append, List.mem_singleton, H2.out.2.2.2.2.2.2.1, H7.out.2.2.2.2.2.2.1]
                constructor
                · rintro ((⟨q, hq, e1, e2, e3⟩ | e1) | ⟨q, hq, e1, e2, e3⟩)
                  · exact ⟨q, hq, e1, e2, hup q e3⟩
                  · exact ⟨k, hk, by rw [hx.out, e1], hsk, hk7⟩
                  · exact ⟨q, hq, e1, hopenw q e2, e3⟩
                · rintro ⟨q, hq, e1, e2, e3⟩
                  cases c : ov' q with
                  | true => exact Or.inl (Or.inl ⟨q, hq, e1, e2, c⟩)
                  | false =>
                    by_cases e4 : q = k
                    · rw [e4, hx.out] at e1; exact Or.inl (Or.inr e1.symm)
                    · exact Or.inr ⟨q, hq, e1, hnew q c e3 e4, e3⟩
              · have h1 := H7.out.2.2.2.2.2.2.2.2
                have h1 : l7.length + openN s.N ov7 ≤ openN s.N (upd ov' k true) := h1
                rw [List.length_append, List.length_append, List.length_singleton]
                omega
      · obtain rfl : m = j := by omega
        go_wp2_with fail
        first
        | go_end0
        | refine bodyPost_ret (results_none rfl _ _ _) rfl ?_
        refine ⟨rfl, ov', v', l', H2.out.1, H2.out.2.1, H2.out.2.2.1, fun k hk hmem => ?_, H2.out.2.2.2.2⟩
        obtain ⟨p, hp, e1⟩ := List.mem_iff_getElem.1 hmem
        exact H2.out.2.2.2.1 p (by have := hm.out; omega) k hk (by rw [List.getElem?_eq_getElem hp, e1])
end Go.Proofs.Ytecimlbdcldkdaa
