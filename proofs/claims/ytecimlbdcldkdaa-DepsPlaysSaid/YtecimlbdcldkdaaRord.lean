/- The walk of the document's Order. -/
import Derived.Test.YtecimlbdcldkdaaOrd
import Derived.Test.YtecimlbdcldkdaaIn
namespace Go.Proofs.Ytecimlbdcldkdaa
open Go.RowKit Dep

theorem wpList_frpush {W : World} {base : Nat} {l : List Nat} {A : Option Addr} {m cap : Nat} (h : FR W base (.slice A m cap) l) {k : Nat} (hl : m ≤ 1000000) (hb : base ≤ W.heap.size)
    {ops : Array Oper} {rest : List Oper} {o : Oper} {a : Act} {Q : Exit → Act → World → Prop} (hgd : o.guard = none) (s x : Operand)
    (ho : o.op = .call { callee := .builtin .append, args := #[s, x], argTypes := #[25, 25] }) (hty : o.type = 25)
    (hs : a.eval s = .slice A m cap) (hx : a.eval x = .slice (some ⟨W.heap.size, 0, none⟩) 1 1)
    (hk : ∀ A' cap' W', W.grownBy W' (Value.slice A m cap).ownBlock → FR W' base (.slice A' (m + 1) cap') (l ++ [k]) → Fresh W (.slice A m cap) (.slice A' (m + 1) cap') →
      wpList Try.prog ops Q rest (a.put o.dst (.slice A' (m + 1) cap')) W') :
    wpList Try.prog ops Q (o :: rest) a (W.alloc (.cells #[.int .i64 (k : Int)] 3)) := by
  have hm : m = l.length := h.len
  have hF1 : FR (W.alloc (.cells #[.int .i64 (k : Int)] 3)) base (.slice A m cap) l := h.keep fun g _ hl => Below.heap_alloc W _ g hl
  obtain ⟨r, W', hr, h1, h2, h3⟩ := hF1.append_run (by omega) W.heap.size k ((Bk.new W 3 #[.int .i64 (k : Int)]).cell (i := 0) rfl) (Nat.le_trans hb (by simp))
  obtain ⟨A', cap', e⟩ := h1.form
  rw [List.length_append, List.length_singleton, ← hm] at e
  subst e
  have hr' : (Builtin.append_ #[25, 25] o.type #[a.eval s, a.eval x]).run Try.prog (W.alloc (.cells #[.int .i64 (k : Int)] 3)) = .ok (.slice A' (m + 1) cap') W' := by rw [hty, hs, hx]; exact hr
  refine wpList_append_run hgd s x _ _ ho _ hr' (hk A' cap' W' ?_ h1 (h3.older (by simp)))
  have g0 : W.grownBy (W.alloc (.cells #[.int .i64 (k : Int)] 3)) (Value.slice A m cap).ownBlock := ⟨rfl, rfl, rfl, by simp, fun b hb _ => Below.heap_alloc W _ b hb⟩
  exact grown_trans g0 h2
theorem FR.nums {w : World} {base : Nat} {A : Option Addr} {m cap : Nat} {l : List Nat} (h : FR w base (.slice A m cap) l) : NumsAt w A m (fun j => ((l.getD j 0 : Nat) : Int)) := by
  intro hm
  have hl := h.len
  obtain ⟨g, o, rfl, _⟩ := h.cellAt (j := 0) (List.getElem?_eq_getElem (by omega))
  refine ⟨g, o, rfl, fun j hj => ?_⟩
  have hj2 : j < l.length := by omega
  obtain ⟨g', o', e, hc⟩ := h.cellAt (List.getElem?_eq_getElem hj2)
  cases e
  simp only [List.getD_eq_getElem?_getD, List.getElem?_eq_getElem hj2, Option.getD_some]
  exact hc
theorem in_fr {w : World} {base : Nat} {A : Option Addr} {m cap : Nat} {l : List Nat} (h : FR w base (.slice A m cap) l) (hm : m ≤ 1000000) (t : Nat) :
    Calls Try.prog 23 #[.slice A m cap, .int .i64 (t : Int)] w fun e w' => e = .returned (.bool (l.contains t)) ∧ w = w' := by
  refine in_any A m cap _ (t : Int) (l.contains t) ?_ hm w h.nums
  have hl := h.len
  rw [List.contains_iff_mem, List.mem_iff_getElem]
  constructor
  · rintro ⟨j, hj, e⟩
    exact ⟨j, by omega, by simp [List.getD_eq_getElem?_getD, List.getElem?_eq_getElem hj, e]⟩
  · rintro ⟨j, hj, e⟩
    have hj2 : j < l.length := by omega
    refine ⟨j, hj2, ?_⟩
    simp only [List.getD_eq_getElem?_getD, List.getElem?_eq_getElem hj2, Option.getD_some] at e
    omega

/-- is the place i free, as far as its first j have been looked at -/
def fr3 (n : Nat) (e : Nat → Nat → Int) (o : List Nat) (i j : Nat) : Bool := !o.contains i && (tg n (pre e i j)).all fun t => o.contains t
theorem fr3_zero {n : Nat} {e : Nat → Nat → Int} {o : List Nat} {i : Nat} : fr3 n e o i 0 = !o.contains i := by simp [fr3, pre, tg]
theorem fr3_out {n : Nat} {e : Nat → Nat → Int} {o : List Nat} {i j : Nat} (he : ¬ (0 ≤ e i j ∧ e i j < (n : Int))) : fr3 n e o i (j + 1) = fr3 n e o i j := by unfold fr3; rw [pre_succ, tg_out _ he]
theorem fr3_in {n : Nat} {e : Nat → Nat → Int} {o : List Nat} {i j t : Nat} (ht : t < n) (he : e i j = (t : Int)) : fr3 n e o i (j + 1) = (fr3 n e o i j && o.contains t) := by
  unfold fr3
  rw [pre_succ, he, tg_in _ ht, List.all_append]
  simp [Bool.and_assoc]
theorem fr3_false {n : Nat} {e : Nat → Nat → Int} {o : List Nat} {i j k : Nat} (h : fr3 n e o i j = false) (hk : j ≤ k) : fr3 n e o i k = false := by
  obtain ⟨d, rfl⟩ : ∃ d, k = j + d := ⟨k - j, by omega⟩
  induction d with
  | zero => exact h
  | succ d ih =>
    have h1 := ih (by omega)
    show fr3 n e o i (j + d + 1) = false
    by_cases he : 0 ≤ e i (j + d) ∧ e i (j + d) < (n : Int)
    · obtain ⟨t, ht⟩ := Int.eq_ofNat_of_zero_le he.1
      rw [fr3_in (t := t) (by omega) ht, h1]
      rfl
    · rw [fr3_out he, h1]
theorem fr3_iff {n : Nat} {m : Nat → Nat} {e : Nat → Nat → Int} {o : List Nat} {i : Nat} : fr3 n e o i (m i) = true ↔ i ∉ o ∧ wt n (rowsOf m e) o i = 0 := by
  unfold fr3 wt rowsOf
  rw [List.countP_eq_zero]
  simp
/-- the best one of those from q on, so far -/
def Best3 (n : Nat) (a : Nat → List Int) (o : List Nat) (q : Nat) (b : Int) : Prop :=
  (b = -1 ∧ ∀ k, q ≤ k → k < n → k ∈ o ∨ wt n a o k ≠ 0) ∨ ∃ i : Nat, b = i ∧ q ≤ i ∧ i < n ∧ i ∉ o ∧ wt n a o i = 0 ∧ ∀ k, q ≤ k → k < i → k ∈ o ∨ wt n a o k ≠ 0
theorem Best3.none {n : Nat} {a : Nat → List Int} {o : List Nat} (h : Best3 n a o 0 (-1)) : Best n a o none := by
  rcases h with ⟨_, h⟩ | ⟨i, h, _⟩
  · exact fun k hk => h k (by omega) hk
  · omega
theorem Best3.some {n : Nat} {a : Nat → List Int} {o : List Nat} {b : Int} (hb : ¬ b < 0) (h : Best3 n a o 0 b) : ∃ i : Nat, b = i ∧ Best n a o (some i) := by
  rcases h with ⟨h, _⟩ | ⟨i, h1, _, h2, h3, h4, h5⟩
  · omega
  · exact ⟨i, h1, h2, h3, h4, fun k hk => h5 k (by omega) hk⟩
theorem Best3.skip {n : Nat} {a : Nat → List Int} {o : List Nat} {q : Nat} {b : Int} (h : Best3 n a o (q + 1) b) (hq : ¬ (q ∉ o ∧ wt n a o q = 0)) : Best3 n a o q b := by
  have hq' : q ∈ o ∨ wt n a o q ≠ 0 := by
    by_cases c : q ∈ o
    · exact Or.inl c
    · exact Or.inr fun d => hq ⟨c, d⟩
  rcases h with ⟨h1, h2⟩ | ⟨i, h1, h2, h3, h4, h5, h6⟩
  · refine Or.inl ⟨h1, fun k hk hn => ?_⟩
    by_cases c : k = q
    · rw [c]; exact hq'
    · exact h2 k (by omega) hn
  · refine Or.inr ⟨i, h1, by omega, h3, h4, h5, fun k hk hn => ?_⟩
    by_cases c : k = q
    · rw [c]; exact hq'
    · exact h6 k (by omega) hn

set_option maxRecDepth 100000 in
set_option maxHeartbeats 8000000 in
theorem rorder_any (A0 : Option Addr) (n c : Nat) (m : Nat → Nat) (e : Nat → Nat → Int) (hn : n ≤ 1000) (hm : ∀ i, i < n → m i ≤ 1000) (w : World) (hrow : RowsN w A0 n m e) :
    Calls Try.prog 13 #[.slice A0 n c] w (OrdSaid n (rowsOf m e) w) := by
  have HROW := Lib.hid hrow
  have HM := Lib.hid hm
  have hnn : (n : Int) ≤ 1000 := by omega
  clear hrow hm
  go_enter Try.func13, Try.ntmps13
  go_wp2_with fail
  go_loopg [4] n (fun g s4 wr => ∃ A on cap o, s4 = .slice A on cap ∧ on ≤ n ∧ g = n - on ∧ Hid (FR wr w.heap.size (.slice A on cap) o ∧ o.Nodup ∧ (∀ k ∈ o, k < n) ∧ (∀ r f, Run n (rowsOf m e) o r f → Run n (rowsOf m e) [] r f) ∧ Below w.heap.size w wr))
  case atStart => exact ⟨none, 0, 0, [], rfl, by omega, by omega, Lib.hid ⟨Or.inl ⟨rfl, rfl⟩, List.nodup_nil, fun k hk => (by cases hk), fun _ _ h => h, Below.refl _ _⟩⟩
  case round =>
    obtain ⟨A, on, cap, o, rfl, hon, hg, H⟩ := hrel
    have hol := Lib.hid H.out.1.len
    have hon2 : on ≤ 1000000 := by omega
    by_cases hlt : on < n
    · have hlt' : (on : Int) < (n : Int) := by omega
      obtain ⟨bl, off, rfl, hrows⟩ := HROW.out (by omega)
      have HR := Lib.hid hrows
      clear hrows
      go_wp2_with fail
      rename World => wo
      go_loopg [5, 6] n (fun g s5 s6 w2 => ∃ (q : Nat) (b : Int), q ≤ n ∧ g = q ∧ s6 = .int .i64 ((q : Int) - 1) ∧ s5 = .int .i64 b ∧ Hid (Best3 n (rowsOf m e) o q b) ∧ wo = w2)
      case atStart => exact ⟨n, -1, by omega, by omega, rfl, rfl, Lib.hid (Or.inl ⟨rfl, fun k h1 h2 => by omega⟩), rfl⟩
      case round =>
        obtain ⟨q, b, hq, hg2, rfl, rfl, HB, rfl⟩ := hrel
        cases q with
        | zero =>
          rw [show ((0 : Nat) : Int) - 1 = -1 from rfl]
          by_cases hb : b < 0
          · have hb1 : b = -1 := by
              rcases HB.out with ⟨h, _⟩ | ⟨i, h, _⟩
              · exact h
              · omega
            subst hb1
            go_wp2_with fail
            go_ret2
            exact Or.inr ⟨o, rfl, H.out.2.2.2.1 _ _ (Run.stuck o (by rw [← hol.out]; exact hlt) HB.out.none), H.out.2.2.2.2⟩
          · obtain ⟨i, rfl, hbest⟩ := HB.out.some hb
            have HBS := Lib.hid hbest
            have i0 : (0 : Int) ≤ (i : Int) := by omega
            clear hb hbest
            go_wp2_with (first | (at_builtin; refine wpList_frpush H.out.1 (k := i) hon2 H.out.2.2.2.2.size rfl _ _ rfl rfl rfl rfl ?_))
            intro A' cap' W' hg4 hF4 hr4
            have hgood := HBS.out
            have HW := Lib.hid (show FR W' w.heap.size (.slice A' (on + 1) cap') (o ++ [i]) ∧ Below w.heap.size w W' from ⟨hF4, H.out.2.2.2.2.grown hg4 H.out.2.2.2.2.size fun k hk => (H.out.1.lt k hk).1⟩)
            clear hg4 hF4 hr4 hgood
            go_wp2_with fail
            go_roundg (n - (on + 1))
            case measure => omega
            case rel =>
              refine ⟨A', on + 1, cap', o ++ [i], rfl, by omega, rfl, Lib.hid ⟨HW.out.1, ?_, fun k hk => ?_, fun r f h => H.out.2.2.2.1 r f (Run.more o i r f (by rw [← hol.out]; exact hlt) HBS.out h), HW.out.2⟩⟩
              · rw [List.nodup_append]
                refine ⟨H.out.2.1, by simp, fun x hx y hy e => ?_⟩
                simp at hy
                rw [e, hy] at hx
                exact HBS.out.2.1 hx
              · rcases List.mem_append.1 hk with h | h
                · exact H.out.2.2.1 k h
                · simp at h
                  rw [h]
                  exact HBS.out.1
        | succ q =>
          rw [show ((q + 1 : Nat) : Int) - 1 = (q : Int) by omega]
          obtain ⟨Ai, ci, hcell, hnums⟩ := HR.out q (by omega)
          have r0 : wo.cell? ⟨bl, off + q, none⟩ = some (.slice Ai (m q) ci) := keep_below hcell H.out.2.2.2.2
          have HN := Lib.hid hnums
          have hmq : ((m q : Nat) : Int) ≤ 1000 := by have := HM.out q (by omega); omega
          have i0 : (0 : Int) ≤ (q : Int) := by omega
          have i1 : (q : Int) < (n : Int) := by omega
          clear hcell hnums
          go_wp2_with fail
          refine (in_fr H.out.1 hon2 q).mono ?_
          rintro x w3 ⟨rfl, rfl⟩
          obtain ⟨bq, hbq⟩ : ∃ bq, Hid (o.contains q = bq) := ⟨_, Lib.hid rfl⟩
          rw [hbq.out]
          go_wp2_with fail
          go_loopg [7, 8] (m q) (fun g s7 s8 w3 => ∃ kk : Nat, kk ≤ m q ∧ g = m q - kk ∧ s8 = .int .i64 kk ∧ (∃ f, s7 = .bool f ∧ Hid (fr3 n e o q kk = f)) ∧ wo = w3)
          case atStart => exact ⟨0, by omega, by omega, rfl, ⟨_, rfl, Lib.hid (by rw [fr3_zero, hbq.out])⟩, rfl⟩
          case round =>
            obtain ⟨kk, hkk, hg3, rfl, ⟨f, rfl, HF⟩, rfl⟩ := hrel
            have j0 : (0 : Int) ≤ (kk : Int) := by omega
            cases f with
            | false =>
              have hno : ¬ (q ∉ o ∧ wt n (rowsOf m e) o q = 0) := fun h => by
                have h2 := fr3_iff.2 h
                rw [fr3_false HF.out hkk] at h2
                cases h2
              have HBN := Lib.hid (HB.out.skip hno)
              clear hno
              by_cases hlt2 : kk < m q
              · have j1 : (kk : Int) < ((m q : Nat) : Int) := by omega
                go_wp2_with fail
                go_roundg q
                case measure => omega
                case rel => exact ⟨q, b, by omega, rfl, by go_num, rfl, HBN, rfl⟩
              · have j1 : ¬ (kk : Int) < ((m q : Nat) : Int) := by omega
                go_wp2_with fail
                go_roundg q
                case measure => omega
                case rel => exact ⟨q, b, by omega, rfl, by go_num, rfl, HBN, rfl⟩
            | true =>
              by_cases hlt2 : kk < m q
              · have j1 : (kk : Int) < ((m q : Nat) : Int) := by omega
                obtain ⟨g1, o1, rfl, hc⟩ := HN.out (by omega)
                have r1 : wo.cell? ⟨g1, o1 + kk, none⟩ = some (.int .i64 (e q kk)) := keep_below (hc kk hlt2) H.out.2.2.2.2
                obtain ⟨x, hx⟩ : ∃ x, Hid (e q kk = x) := ⟨_, Lib.hid rfl⟩
                rw [hx.out] at r1
                clear hc
                by_cases hr : 0 ≤ x ∧ x < (n : Int)
                · obtain ⟨t, rfl⟩ := Int.eq_ofNat_of_zero_le hr.1
                  have t0 : (0 : Int) ≤ (t : Int) := hr.1
                  have t1 : (t : Int) < (n : Int) := hr.2
                  have ht : t < n := by omega
                  clear hr
                  go_wp2_with fail
                  refine (in_fr H.out.1 hon2 t).mono ?_
                  rintro x w3 ⟨rfl, rfl⟩
                  have hnext := Lib.hid (fr3_in (o := o) ht hx.out)
                  obtain ⟨bt, hbt⟩ : ∃ bt, Hid (o.contains t = bt) := ⟨_, Lib.hid rfl⟩
                  rw [hbt.out]
                  cases bt with
                  | true =>
                    go_wp2_with fail
                    go_roundg (m q - (kk + 1))
                    case measure => omega
                    case rel => exact ⟨kk + 1, by omega, rfl, by go_num, ⟨_, rfl, Lib.hid (by rw [hnext.out, HF.out, hbt.out]; rfl)⟩, rfl⟩
                  | false =>
                    go_wp2_with fail
                    go_roundg (m q - (kk + 1))
                    case measure => omega
                    case rel => exact ⟨kk + 1, by omega, rfl, by go_num, ⟨_, rfl, Lib.hid (by rw [hnext.out, HF.out, hbt.out]; rfl)⟩, rfl⟩
                · have hnext := Lib.hid (fr3_out (o := o) (show ¬ (0 ≤ e q kk ∧ e q kk < (n : Int)) by rw [hx.out]; exact hr))
                  by_cases hx0 : 0 ≤ x
                  · have hx1 : ¬ x < (n : Int) := by omega
                    clear hr
                    go_wp2_with fail
                    go_roundg (m q - (kk + 1))
                    case measure => omega
                    case rel => exact ⟨kk + 1, by omega, rfl, by go_num, ⟨_, rfl, Lib.hid (by rw [hnext.out, HF.out])⟩, rfl⟩
                  · clear hr
                    go_wp2_with fail
                    go_roundg (m q - (kk + 1))
                    case measure => omega
                    case rel => exact ⟨kk + 1, by omega, rfl, by go_num, ⟨_, rfl, Lib.hid (by rw [hnext.out, HF.out])⟩, rfl⟩
              · have j1 : ¬ (kk : Int) < ((m q : Nat) : Int) := by omega
                obtain rfl : m q = kk := by omega
                have hyes := Lib.hid (fr3_iff.1 HF.out)
                go_wp2_with fail
                go_roundg q
                case measure => omega
                case rel => exact ⟨q, (q : Int), by omega, rfl, by go_num, rfl, Lib.hid (Or.inr ⟨q, rfl, Nat.le_refl _, by omega, hyes.out.1, hyes.out.2, fun k h1 h2 => by omega⟩), rfl⟩
    · have hlt' : ¬ (on : Int) < (n : Int) := by omega
      go_wp2_with fail
      go_ret2
      exact Or.inl ⟨_, o, rfl, H.out.2.2.2.1 _ _ (Run.full o (by rw [← hol.out]; omega)), H.out.1, H.out.2.2.2.2⟩
end Go.Proofs.Ytecimlbdcldkdaa
