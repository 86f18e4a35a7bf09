/- Plain: what stays of a life whatever signs come; how a live one ends. No program in sight. -/
import Derived.Test.YtmpggfcceepccaaDoorLifN
namespace Go.Proofs.YtmpggfcceepccaaDoor.Lif

/-- a life that came from New(r) -/
def From (r : Int) (l : Life) : Prop := Rt l ∧ l.at_ + l.lf ≤ r + (if l.st = 1 ∨ l.st = 2 then 0 else 1)

/-- what a step comes to: an error that changes nothing, or a life that stays so -/
def Step (r : Int) (l : Life) (q : Life × Int) : Prop :=
  q = (zero, 100) ∨ (∃ x, q = (x, 0) ∧ over l.st = false ∧ right x = true ∧ From r x ∧ x.at_ ≤ r + 1 ∧ l.at_ ≤ x.at_ ∧ x.lf ≤ l.lf ∧ x.at_ + x.lf ≤ r + 1)

theorem from_fresh {r : Int} (h : 0 ≤ r ∧ r ≤ 5) (b : Bool) : From r ⟨if b = true then 2 else 1, 0, r, false, false⟩ := by
  unfold From Rt most
  cases b <;> simp <;> omega

theorem step_of {r : Int} {l x : Life} (ho : over l.st = false) (hx : From r x) (h1 : l.at_ ≤ x.at_) (h2 : x.lf ≤ l.lf) : Step r l (x, 0) := by
  have hx' := hx
  unfold From Rt at hx'
  refine Or.inr ⟨x, rfl, ho, right_iff.2 hx.1, hx, ?_, h1, h2, ?_⟩
  · split at hx' <;> omega
  · split at hx' <;> omega

theorem step_wait {r : Int} {l : Life} (h : From r l) (hw : l.st = 1 ∨ l.st = 2) (g : Int) : (waiting l g).2 = true → Step r l ((waiting l g).1, 0) := by
  obtain ⟨s, a, f, x, y⟩ := l
  unfold From Rt most at h
  simp only at hw h
  have ho : over s = false := decide_eq_false (by omega)
  rw [if_pos hw, if_pos hw] at h
  unfold waiting
  simp only
  repeat' split
  all_goals intro hb
  all_goals first | contradiction | skip
  all_goals
    refine step_of ho ?_ (by simp <;> omega) (by simp)
    unfold From Rt most
    first | (simp; omega) | (cases x <;> cases y <;> simp at h <;> simp <;> omega)

theorem step_live {r : Int} {l : Life} (h : From r l) (hw : l.st = 3 ∨ l.st = 4) (g : Int) : (living l g).2 = true → Step r l ((living l g).1, 0) := by
  obtain ⟨s, a, f, x, y⟩ := l
  unfold From Rt most at h
  simp only at hw h
  have ho : over s = false := decide_eq_false (by omega)
  rw [if_neg (by omega), if_neg (by omega)] at h
  unfold living ended
  simp only
  repeat' split
  all_goals intro hb
  all_goals first | contradiction | skip
  all_goals
    refine step_of ho ?_ (by simp) (by simp <;> omega)
    unfold From Rt most
    simp
    first | omega | (cases x <;> cases y <;> simp at h <;> simp <;> omega)

theorem step_next {r : Int} {l : Life} (h : From r l) (g : Int) : Step r l (next l g) := by
  have hr : right l = true := right_iff.2 h.1
  unfold next
  rw [if_pos hr]
  by_cases hw : waits l.st = true
  · rw [if_pos hw]
    by_cases hb : (waiting l g).2 = true
    · rw [if_pos hb]
      exact step_wait h (of_decide_eq_true hw) g hb
    · rw [if_neg hb]
      exact Or.inl rfl
  · rw [if_neg hw]
    by_cases hl : live l.st = true
    · rw [if_pos hl]
      by_cases hb : (living l g).2 = true
      · rw [if_pos hb]
        exact step_live h (of_decide_eq_true hl) g hb
      · rw [if_neg hb]
        exact Or.inl rfl
    · rw [if_neg hl]
      exact Or.inl rfl

/-- a live life with what came to it: told to stop, behind its wall, gone -/
def E (r : Int) (st wl gn : Bool) : Life := ⟨if st = true ∨ wl = true ∨ gn = true then 4 else 3, 1, r, wl, st⟩

theorem end_right {r : Int} (h : 0 ≤ r ∧ r ≤ 5) (st wl gn : Bool) : right (E r st wl gn) = true := by
  refine right_iff.2 ?_
  unfold E Rt most
  cases st <;> cases wl <;> cases gn <;> simp <;> omega

theorem end_live (r : Int) (st wl gn : Bool) : live (E r st wl gn).st = true := by
  unfold E live
  cases st <;> cases wl <;> cases gn <;> simp

theorem end_waits (r : Int) (st wl gn : Bool) : waits (E r st wl gn).st = false := by
  unfold E waits
  cases st <;> cases wl <;> cases gn <;> simp

theorem end_step {r : Int} (h : 0 ≤ r ∧ r ≤ 5) (st wl gn : Bool) {g : Int} (hg : g ≠ 8) :
    next (E r st wl gn) g = if g = 4 then (E r st true gn, 0) else if g = 5 then (E r st wl true, 0) else if g = 6 ∧ st = false then (E r true wl gn, 0) else (zero, 100) := by
  unfold next
  rw [if_pos (end_right h st wl gn), if_neg (by rw [end_waits]; simp), if_pos (end_live r st wl gn)]
  unfold living
  rw [if_neg hg]
  by_cases h4 : g = 4
  · simp [h4, E]
  · by_cases h5 : g = 5
    · subst h5
      simp [E]
    · by_cases h6 : g = 6 ∧ st = false
      · simp [h6, E]
      · have : ¬ (g = 6 ∧ (E r st wl gn).stop = false) := h6
        rw [if_neg h4, if_neg h5, if_neg this, if_neg h4, if_neg h5, if_neg h6]
        simp

/-- what a live life ends as -/
def want (r : Int) (st wl gn : Bool) : Int :=
  if st = true then 8 else if wl = true then 6 else if gn = true ∧ 0 < r then 1 else if gn = true then 7 else 5

theorem end_over {r : Int} (h : 0 ≤ r ∧ r ≤ 5) (st wl gn : Bool) :
    ∃ k, next (E r st wl gn) 8 = (⟨want r st wl gn, 1, k, false, false⟩, 0) := by
  unfold next
  rw [if_pos (end_right h st wl gn), if_neg (by rw [end_waits]; simp), if_pos (end_live r st wl gn)]
  unfold living
  rw [if_pos rfl]
  unfold ended want E
  by_cases h0 : 0 < r <;> cases st <;> cases wl <;> cases gn <;> simp [h0]

end Go.Proofs.YtmpggfcceepccaaDoor.Lif
