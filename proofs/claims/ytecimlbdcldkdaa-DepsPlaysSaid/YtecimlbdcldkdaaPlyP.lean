/- A graph and the reference's under the same script: plain numbers. -/
import Derived.Test.YtecimlbdcldkdaaRfi
namespace Go.Proofs.Ytecimlbdcldkdaa
open Go.RowKit Go.Maps Dep

/-- both hold the same -/
structure Lk (s : GS) (r : RS) : Prop where
  N : s.N = r.N
  id : ∀ i, i < r.N → s.id i = r.id i
  ov : ∀ i, i < r.N → s.ov i = r.ov i
  wl : ∀ i, i < r.N → s.wl i = r.wl i
  ok : Okg s
  rw : RW r
  bl : ∀ k q, k < r.N → q < r.N → s.ov k = false → (s.id q ∈ s.bl k ↔ ∃ j, j < r.n q ∧ r.e q j = (s.id k : Int))
  good : ∀ q, q < r.N → r.ov q = false → ¬ BadR r (r.n q) (r.e q)
  opw : ∀ k, k < r.N → r.ov k = false → r.wl k = false
def RS.none : RS := ⟨0, fun _ => 0, fun _ => Option.none, fun _ => 0, fun _ => 0, fun _ _ => 0, fun _ => false, fun _ => false⟩
theorem Lk.none : Lk GS.none RS.none :=
  ⟨rfl, fun _ h => absurd h (Nat.not_lt_zero _), fun _ h => absurd h (Nat.not_lt_zero _), fun _ h => absurd h (Nat.not_lt_zero _), Okg.none, ⟨fun _ _ h => absurd h (Nat.not_lt_zero _), fun _ h => absurd h (Nat.not_lt_zero _), fun _ h => absurd h (Nat.not_lt_zero _)⟩, fun _ _ h => absurd h (Nat.not_lt_zero _), fun _ h => absurd h (Nat.not_lt_zero _), fun _ h => absurd h (Nat.not_lt_zero _)⟩
section
variable {s s' : GS} {r : RS}
theorem Lk.has (h : Lk s r) (x : Int) : (∃ i, i < s.N ∧ (s.id i : Int) = x) ↔ ∃ i, i < r.N ∧ (r.id i : Int) = x := by
  constructor
  · rintro ⟨i, hi, e⟩
    rw [h.N] at hi
    exact ⟨i, hi, by rw [← h.id i hi]; exact e⟩
  · rintro ⟨i, hi, e⟩
    exact ⟨i, by rw [h.N]; exact hi, by rw [h.id i hi]; exact e⟩
theorem Lk.waits (h : Lk s r) (x : Int) (y : Nat) : (∃ i, i < s.N ∧ (s.id i : Int) = x ∧ s.ov i = false ∧ y ∈ s.ws i) ↔ WtR r x y := by
  constructor
  · rintro ⟨i, hi, e, ho, hy⟩
    obtain ⟨k, hk, e1, h1, h2⟩ := (h.ok.w i hi ho y).1 hy
    rw [h.N] at hi hk
    obtain ⟨j, hj, e2⟩ := (h.bl k i hk hi h1).1 h2
    exact ⟨i, hi, by rw [← h.id i hi]; exact e, by rw [← h.ov i hi]; exact ho, j, hj, by rw [e2, e1], k, hk, by rw [← h.id k hk]; exact e1, by rw [← h.ov k hk]; exact h1⟩
  · rintro ⟨i, hi, e, ho, j, hj, e2, k, hk, e1, h1⟩
    rw [← h.id i hi] at e
    rw [← h.ov i hi] at ho
    rw [← h.id k hk] at e1
    rw [← h.ov k hk] at h1
    refine ⟨i, by rw [h.N]; exact hi, e, ho, (h.ok.w i (by rw [h.N]; exact hi) ho y).2 ⟨k, by rw [h.N]; exact hk, e1, h1, (h.bl k i hk hi h1).2 ⟨j, hj, by rw [e2, e1]⟩⟩⟩
theorem Lk.noWaits (h : Lk s r) {i : Nat} (hi : i < s.N) (ho : s.ov i = false) : s.ws i = [] ↔ ∀ z, ¬ WtR r (s.id i : Int) z := by
  constructor
  · intro e z hz
    obtain ⟨k, hk, e1, _, hy⟩ := (h.waits _ z).2 hz
    have : k = i := h.ok.inj k i hk hi (by omega)
    rw [this, e] at hy
    cases hy
  · intro hz
    refine List.eq_nil_iff_forall_not_mem.2 fun z hz2 => hz z ((h.waits _ z).1 ⟨i, hi, rfl, ho, hz2⟩)
theorem Lk.ready (h : Lk s r) (y : Nat) : (∃ i, i < s.N ∧ s.id i = y ∧ s.ov i = false ∧ s.ws i = []) ↔ RdR r y := by
  constructor
  · rintro ⟨i, hi, e, ho, hw⟩
    have h1 := (h.noWaits hi ho).1 hw
    rw [h.N] at hi
    rw [h.id i hi] at h1
    exact ⟨i, hi, by rw [← h.id i hi]; exact e, by rw [← h.ov i hi]; exact ho, h1⟩
  · rintro ⟨i, hi, e, ho, hw⟩
    have hi2 : i < s.N := by rw [h.N]; exact hi
    rw [← h.ov i hi] at ho
    rw [← h.id i hi] at hw e
    exact ⟨i, hi2, e, ho, (h.noWaits hi2 ho).2 hw⟩
theorem Lk.bad (h : Lk s r) (n : Nat) (e : Nat → Int) : (∃ j, j < n ∧ badId s (e j)) ↔ BadR r n e := by
  constructor
  · rintro ⟨j, hj, i, hi, e1, h1, h2⟩
    rw [h.N] at hi
    exact ⟨j, hj, i, hi, by rw [← h.id i hi]; exact e1, by rw [← h.ov i hi]; exact h1, by rw [← h.wl i hi]; exact h2⟩
  · rintro ⟨j, hj, i, hi, e1, h1, h2⟩
    exact ⟨j, hj, i, by rw [h.N]; exact hi, by rw [h.id i hi]; exact e1, by rw [h.ov i hi]; exact h1, by rw [h.wl i hi]; exact h2⟩
theorem Lk.add (h : Lk s r) {k n c : Nat} {A : Option Addr} {e : Nat → Int} {b : Bool} (ha : Added s s' k n e b) (hO : Okg s') (hnew : ¬ ∃ i, i < r.N ∧ (r.id i : Int) = (k : Int)) (hkn : ∀ j, j < n → ∃ i, i < r.N ∧ (r.id i : Int) = e j) (hn20 : n ≤ 20) : Lk s' (r.add k A n c e b) := by
  have hb : b = true ↔ BadR r n e := ha.bad.trans (h.bad n e)
  have hN := h.N
  have eN : (r.add k A n c e b).N = r.N + 1 := rfl
  have rid : ∀ i, i < r.N → (r.add k A n c e b).id i = r.id i := fun i hi => by show upd r.id r.N k i = _; rw [upd_other _ _ (by omega)]
  have ridN : (r.add k A n c e b).id r.N = k := by show upd r.id r.N k r.N = _; rw [upd_same]
  have rov : ∀ i, i < r.N → (r.add k A n c e b).ov i = r.ov i := fun i hi => by show upd r.ov r.N b i = _; rw [upd_other _ _ (by omega)]
  have rovN : (r.add k A n c e b).ov r.N = b := by show upd r.ov r.N b r.N = _; rw [upd_same]
  have rwl : ∀ i, i < r.N → (r.add k A n c e b).wl i = r.wl i := fun i hi => by show upd r.wl r.N false i = _; rw [upd_other _ _ (by omega)]
  have rwlN : (r.add k A n c e b).wl r.N = false := by show upd r.wl r.N false r.N = _; rw [upd_same]
  have rn : ∀ i, i < r.N → (r.add k A n c e b).n i = r.n i := fun i hi => by show upd r.n r.N n i = _; rw [upd_other _ _ (by omega)]
  have rnN : (r.add k A n c e b).n r.N = n := by show upd r.n r.N n r.N = _; rw [upd_same]
  have re : ∀ i, i < r.N → (r.add k A n c e b).e i = r.e i := fun i hi => by show upd r.e r.N e i = _; rw [upd_other _ _ (by omega)]
  have reN : (r.add k A n c e b).e r.N = e := by show upd r.e r.N e r.N = _; rw [upd_same]
  have sid : ∀ i, i < r.N → s'.id i = s.id i := fun i hi => by rw [ha.id, upd_other _ _ (by omega)]
  have sidN : s'.id r.N = k := by rw [ha.id, ← hN, upd_same]
  have sov : ∀ i, i < r.N → s'.ov i = s.ov i := fun i hi => by rw [ha.ov, upd_other _ _ (by omega)]
  have swl : ∀ i, i < r.N → s'.wl i = s.wl i := fun i hi => by rw [ha.wl, upd_other _ _ (by omega)]
  have badOld : ∀ (m : Nat) (f : Nat → Int), (∀ j, j < m → ∃ i, i < r.N ∧ (r.id i : Int) = f j) → BadR (r.add k A n c e b) m f → BadR r m f := fun m f hf hbad => by
    obtain ⟨j, hj, p, hp, h1, h2, h3⟩ := hbad
    rw [eN] at hp
    by_cases c1 : p = r.N
    · rw [c1, ridN] at h1
      obtain ⟨i, hi, e1⟩ := hf j hj
      exact absurd ⟨i, hi, e1.trans h1.symm⟩ hnew
    · have hp2 : p < r.N := by omega
      rw [rid p hp2] at h1
      rw [rov p hp2] at h2
      rw [rwl p hp2] at h3
      exact ⟨j, hj, p, hp2, h1, h2, h3⟩
  refine ⟨by rw [ha.N, eN, hN], fun i hi => ?_, fun i hi => ?_, fun i hi => ?_, hO, ⟨fun i q hi hq e1 => ?_, fun i hi j hj => ?_, fun i hi => ?_⟩, fun p q hp hq ho => ?_, fun q hq ho => ?_, fun q hq ho => ?_⟩
  · rw [eN] at hi
    by_cases c1 : i = r.N
    · rw [c1, sidN, ridN]
    · rw [sid i (by omega), rid i (by omega), h.id i (by omega)]
  · rw [eN] at hi
    by_cases c1 : i = r.N
    · rw [c1, rovN, ha.ov, ← hN, upd_same]
    · rw [sov i (by omega), rov i (by omega), h.ov i (by omega)]
  · rw [eN] at hi
    by_cases c1 : i = r.N
    · rw [c1, rwlN, ha.wl, ← hN, upd_same]
    · rw [swl i (by omega), rwl i (by omega), h.wl i (by omega)]
  · rw [eN] at hi hq
    by_cases c1 : i = r.N
    · by_cases c2 : q = r.N
      · omega
      · rw [c1, ridN, rid q (by omega)] at e1
        exact absurd ⟨q, by omega, by rw [← e1]⟩ hnew
    · by_cases c2 : q = r.N
      · rw [c2, ridN, rid i (by omega)] at e1
        exact absurd ⟨i, by omega, by rw [e1]⟩ hnew
      · rw [rid i (by omega), rid q (by omega)] at e1
        exact h.rw.inj i q (by omega) (by omega) e1
  · rw [eN] at hi ⊢
    have key : ∃ p, p < r.N ∧ (r.id p : Int) = (r.add k A n c e b).e i j := by
      by_cases c1 : i = r.N
      · rw [c1, rnN] at hj
        rw [c1, reN]
        exact hkn j hj
      · rw [rn i (by omega)] at hj
        rw [re i (by omega)]
        exact h.rw.af i (by omega) j hj
    obtain ⟨p, hp, e1⟩ := key
    exact ⟨p, by omega, by rw [rid p hp]; exact e1⟩
  · rw [eN] at hi
    by_cases c1 : i = r.N
    · rw [c1, rnN]; exact hn20
    · rw [rn i (by omega)]; exact h.rw.n20 i (by omega)
  · rw [eN] at hp hq
    by_cases c1 : p = r.N
    · rw [c1, sidN, ← hN, ha.bn]
      refine ⟨fun h0 => (by cases h0), fun ⟨j, hj, e1⟩ => ?_⟩
      exfalso
      by_cases c2 : q = r.N
      · rw [c2, rnN] at hj
        rw [c2, reN] at e1
        obtain ⟨i, hi, e2⟩ := hkn j hj
        exact hnew ⟨i, hi, e2.trans e1⟩
      · rw [rn q (by omega)] at hj
        rw [re q (by omega)] at e1
        obtain ⟨i, hi, e2⟩ := h.rw.af q (by omega) j hj
        exact hnew ⟨i, hi, e2.trans e1⟩
    · have hp2 : p < r.N := by omega
      have hps : p < s.N := by omega
      rw [sov p hp2] at ho
      have hl := ha.bl p hps
      rw [sid p hp2]
      by_cases c2 : q = r.N
      · rw [c2, sidN, rnN, reN]
        by_cases c3 : s.ov p = false ∧ ∃ j, j < n ∧ e j = (s.id p : Int)
        · rw [hl.1 c3]
          exact ⟨fun _ => c3.2, fun _ => by simp⟩
        · rw [hl.2 c3]
          refine ⟨fun h0 => ?_, fun h0 => absurd ⟨ho, h0⟩ c3⟩
          obtain ⟨i, _, hi, e1⟩ := h.ok.up p hps k h0
          exact absurd ⟨i, by omega, by rw [← h.id i (by omega), e1]⟩ hnew
      · have hq2 : q < r.N := by omega
        rw [sid q hq2, rn q hq2, re q hq2, ← h.bl p q hp2 hq2 ho]
        by_cases c3 : s.ov p = false ∧ ∃ j, j < n ∧ e j = (s.id p : Int)
        · rw [hl.1 c3, List.mem_append, List.mem_singleton]
          refine ⟨fun h0 => h0.elim (fun h0 => h0) fun h0 => absurd ⟨q, hq2, by rw [← h.id q hq2, h0]⟩ hnew, Or.inl⟩
        · rw [hl.2 c3]
  · rw [eN] at hq
    by_cases c1 : q = r.N
    · rw [c1, rnN, reN]
      rw [c1, rovN] at ho
      intro hbad
      rw [hb.2 (badOld n e hkn hbad)] at ho
      cases ho
    · have hq2 : q < r.N := by omega
      rw [rn q hq2, re q hq2]
      rw [rov q hq2] at ho
      exact fun hbad => h.good q hq2 ho (badOld _ _ (h.rw.af q hq2) hbad)
  · rw [eN] at hq
    by_cases c1 : q = r.N
    · rw [c1, rwlN]
    · rw [rov q (by omega)] at ho
      rw [rwl q (by omega)]
      exact h.opw q (by omega) ho
/-- both finish alike -/
theorem Lk.same (h : Lk s r) {i : Nat} (hi : i < r.N) (hoi : s.ov i = false) {well : Bool} {ov' O : Nat → Bool} (hf : FinOv s i well ov') (hs : SoundO r i well O) (hc : ∀ k, k < r.N → O k = false → ¬ BadR (r.fin i well O) (r.n k) (r.e k)) : ∀ k, k < r.N → ov' k = O k := by
  have hup : ∀ k, k < r.N → upd s.ov i true k = upd r.ov i true k := fun k hk => by
    by_cases c : k = i
    · rw [c, upd_same, upd_same]
    · rw [upd_other _ _ c, upd_other _ _ c, h.ov k hk]
  have h1 : ∀ k, k < r.N → O k = true → ov' k = true := fun k hk ho => by
    have := hs.least (fun q => if q < r.N then ov' q else true) (fun q hq => ?_) (fun q hq hbad => ?_) k hk ho
    · simpa [hk] using this
    · by_cases c : q < r.N
      · simp only [c, if_true]
        by_cases c2 : q = i
        · rw [c2]; exact hf.own
        · rw [upd_other _ _ c2] at hq
          exact hf.old q (by rw [h.ov q c]; exact hq)
      · simp [c]
    · simp only [hq, if_true]
      obtain ⟨j, hj, p, hp, e1, h2, h3⟩ := hbad
      have hp : p < r.N := hp
      have e1 : (r.id p : Int) = r.e q j := e1
      have h2 : (if p < r.N then ov' p else true) = true := h2
      have h3 : upd r.wl i well p = false := h3
      rw [if_pos hp] at h2
      have hps : p < s.N := by rw [h.N]; exact hp
      have hqs : q < s.N := by rw [h.N]; exact hq
      cases hq3 : s.ov q with
      | true => exact hf.old q hq3
      | false =>
        by_cases c : p = i
        · rw [c, upd_same] at h3
          exact hf.first h3 q hqs ((h.bl i q hi hq hoi).2 ⟨j, hj, by rw [← e1, c, h.id i hi]⟩)
        · rw [upd_other _ _ c] at h3
          cases hp3 : s.ov p with
          | true => exact absurd ⟨j, hj, p, hp, e1, by rw [← h.ov p hp]; exact hp3, h3⟩ (h.good q hq (by rw [← h.ov q hq]; exact hq3))
          | false =>
            have hu : upd s.ov i true p = false := by rw [upd_other _ _ c]; exact hp3
            cases hw : well with
            | true => rw [hf.good hw p hps, hu] at h2; cases h2
            | false => exact hf.next hw p q hps hu h2 hqs ((h.bl p q hp hq hp3).2 ⟨j, hj, by rw [← e1, h.id p hp]⟩)
  have hbadO : ∀ p q, p < r.N → q < r.N → O p = true → upd r.wl i well p = false → s.ov p = false → s.id q ∈ s.bl p → O q = true := fun p q hp hq ho hw hop hm => by
    cases hO : O q with
    | true => rfl
    | false =>
      obtain ⟨j, hj, e1⟩ := (h.bl p q hp hq hop).1 hm
      exact absurd ⟨j, hj, p, hp, by show (r.id p : Int) = r.e q j; rw [e1, h.id p hp], ho, hw⟩ (hc q hq hO)
  have h2 : ∀ k, k < r.N → ov' k = true → O k = true := fun k hk ho => by
    have hks : k < s.N := by rw [h.N]; exact hk
    cases hu : upd s.ov i true k with
    | true => exact hs.up k (by rw [← hup k hk]; exact hu)
    | false =>
      cases hw : well with
      | true => rw [hf.good hw k hks, hu] at ho; cases ho
      | false =>
        have key : ∀ q, Rch s.N s.id s.bl (upd s.ov i true) i q → O q = true := fun q hq => by
          induction hq with
          | one q hq _ hm => exact hbadO i q hi (by rw [← h.N]; exact hq) (hs.up i (upd_same _ _ _)) (by rw [upd_same]; exact hw) hoi hm
          | more p q hp hq _ hm ih =>
            obtain ⟨hp1, hp2⟩ := hp.open
            have hp1 : p < r.N := by rw [← h.N]; exact hp1
            have hpi : p ≠ i := fun c => by rw [c, upd_same] at hp2; cases hp2
            rw [upd_other _ _ hpi] at hp2
            exact hbadO p q hp1 (by rw [← h.N]; exact hq) ih (by rw [upd_other _ _ hpi]; exact h.opw p hp1 (by rw [← h.ov p hp1]; exact hp2)) hp2 hm
        exact key k (hf.reach hw k hks hu ho)
  intro k hk
  cases h3 : ov' k with
  | true => exact (h2 k hk h3).symm
  | false =>
    cases h4 : O k with
    | true => rw [h1 k hk h4] at h3; cases h3
    | false => rfl
theorem Lk.fin (h : Lk s r) {i : Nat} (hi : i < r.N) (hoi : s.ov i = false) {well : Bool} {ov' O : Nat → Bool} (hf : FinOv s i well ov') (hs : SoundO r i well O) (hc : ∀ k, k < r.N → O k = false → ¬ BadR (r.fin i well O) (r.n k) (r.e k)) : Lk { s with ov := ov', wl := upd s.wl i well, ws := wsP s i (s.bl i).length } (r.fin i well O) := by
  have hsame := h.same hi hoi hf hs hc
  have hop : ∀ k, k < r.N → O k = false → k ≠ i ∧ r.ov k = false := fun k _ ho => by
    have hu : upd r.ov i true k = false := by
      cases hu : upd r.ov i true k with
      | false => rfl
      | true => rw [hs.up k hu] at ho; cases ho
    have hne : k ≠ i := fun c => by rw [c, upd_same] at hu; cases hu
    rw [upd_other _ _ hne] at hu
    exact ⟨hne, hu⟩
  refine ⟨h.N, h.id, hsame, fun k hk => ?_, h.ok.fin (by rw [h.N]; exact hi) hf, h.rw.fin i well O, fun p q hp hq ho => ?_, hc, fun k hk ho => ?_⟩
  · show upd s.wl i well k = upd r.wl i well k
    by_cases c : k = i
    · rw [c, upd_same, upd_same]
    · rw [upd_other _ _ c, upd_other _ _ c, h.wl k hk]
  · have ho : ov' p = false := ho
    have hp : p < r.N := hp
    refine h.bl p q hp hq ?_
    rw [h.ov p hp]
    exact (hop p hp (by rw [← hsame p hp]; exact ho)).2
  · have h1 := hop k hk ho
    show upd r.wl i well k = false
    rw [upd_other _ _ h1.1]
    exact h.opw k hk h1.2
theorem Lk.doomed (h : Lk s r) {i : Nat} {ov' O : Nat → Bool} (hsame : ∀ k, k < r.N → ov' k = O k) (y : Nat) : (∃ k, k < s.N ∧ s.id k = y ∧ upd s.ov i true k = false ∧ ov' k = true) ↔ ∃ k, k < r.N ∧ r.id k = y ∧ upd r.ov i true k = false ∧ O k = true := by
  have hup : ∀ k, k < r.N → upd s.ov i true k = upd r.ov i true k := fun k hk => by
    by_cases c : k = i
    · rw [c, upd_same, upd_same]
    · rw [upd_other _ _ c, upd_other _ _ c, h.ov k hk]
  constructor
  · rintro ⟨k, hk, h1, h2, h3⟩
    rw [h.N] at hk
    exact ⟨k, hk, by rw [← h.id k hk]; exact h1, by rw [← hup k hk]; exact h2, by rw [← hsame k hk]; exact h3⟩
  · rintro ⟨k, hk, h1, h2, h3⟩
    exact ⟨k, by rw [h.N]; exact hk, by rw [h.id k hk]; exact h1, by rw [hup k hk]; exact h2, by rw [hsame k hk]; exact h3⟩
theorem Lk.more (h : Lk s r) {i : Nat} (hi : i < r.N) (hoi : s.ov i = false) {well : Bool} {ov' O : Nat → Bool} (hf : FinOv s i well ov') (hs : SoundO r i well O) (hc : ∀ k, k < r.N → O k = false → ¬ BadR (r.fin i well O) (r.n k) (r.e k)) (y : Nat) :
    (∃ k, k < s.N ∧ s.id k = y ∧ y ∈ s.bl i ∧ ov' k = false ∧ wsP s i (s.bl i).length k = []) ↔ RdR (r.fin i well O) y ∧ ¬ RdR r y := by
  have h2 := h.fin hi hoi hf hs hc
  have his : i < s.N := by rw [h.N]; exact hi
  have hold : ∀ k, ov' k = false → s.ov k = false := fun k hk => by
    cases c : s.ov k with
    | false => rfl
    | true => rw [hf.old k c] at hk; cases hk
  rw [← h2.ready, ← h.ready]
  constructor
  · rintro ⟨k, hk, e1, hm, ho, hw⟩
    refine ⟨⟨k, hk, e1, ho, hw⟩, ?_⟩
    rintro ⟨k', hk', e2, ho', hw'⟩
    have : k' = k := h.ok.inj k' k hk' hk (by omega)
    subst this
    have : s.id i ∈ s.ws k' := (h.ok.w k' hk' ho' _).2 ⟨i, his, rfl, hoi, by rw [e1]; exact hm⟩
    rw [hw'] at this
    cases this
  · rintro ⟨⟨k, hk, e1, ho, hw⟩, hn⟩
    have hk : k < s.N := hk
    have e1 : s.id k = y := e1
    have ho : ov' k = false := ho
    have hw : wsP s i (s.bl i).length k = [] := hw
    refine ⟨k, hk, e1, ?_, ho, hw⟩
    by_cases hm : y ∈ s.bl i
    · exact hm
    · exfalso
      rw [wsP_out (by rw [List.take_length, e1]; exact hm)] at hw
      exact hn ⟨k, hk, e1, hold k ho, hw⟩
end
end Go.Proofs.Ytecimlbdcldkdaa
