/- Plain: what a job's life is, its signs, what it comes to; no program in sight. -/
namespace Go.Proofs.YtmpggfcceepccaaDoor.Lif

structure Life where
  st : Int
  at_ : Int
  lf : Int
  wall : Bool
  stop : Bool

def waits (s : Int) : Bool := decide (s = 1 ∨ s = 2)
def live (s : Int) : Bool := decide (s = 3 ∨ s = 4)
def over (s : Int) : Bool := decide (5 ≤ s ∧ s ≤ 8)
def most (s : Int) : Int := if s = 1 ∨ s = 2 then 5 else 6
/-- may a life be -/
def Rt (l : Life) : Prop :=
  1 ≤ l.st ∧ l.st ≤ 8 ∧ 0 ≤ l.at_ ∧ 0 ≤ l.lf ∧ l.at_ ≤ most l.st ∧ l.lf ≤ most l.st - l.at_ ∧ ¬ (l.at_ = 0 ∧ 3 ≤ l.st ∧ l.st ≤ 7) ∧ (l.st = 4 ∨ l.wall = false ∧ l.stop = false)
instance (l : Life) : Decidable (Rt l) := by unfold Rt; infer_instance
def right (l : Life) : Bool := decide (Rt l)

end Go.Proofs.YtmpggfcceepccaaDoor.Lif
