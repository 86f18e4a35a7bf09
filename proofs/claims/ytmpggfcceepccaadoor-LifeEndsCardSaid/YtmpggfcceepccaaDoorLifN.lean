/- Plain: what a life comes to behind a sign; no program in sight. -/
import Derived.Test.YtmpggfcceepccaaDoorLifM
namespace Go.Proofs.YtmpggfcceepccaaDoor.Lif

def zero : Life := ⟨0, 0, 0, false, false⟩
def ended (l : Life) : Life :=
  if l.stop = true then ⟨8, l.at_, l.lf, false, false⟩
  else if l.wall = true then ⟨6, l.at_, l.lf, false, false⟩
  else if 0 < l.lf then ⟨1, l.at_, l.lf - 1, false, false⟩
  else ⟨7, l.at_, l.lf, false, false⟩
/-- of a life that waits; false: nothing -/
def waiting (l : Life) (g : Int) : Life × Bool :=
  if l.st = 1 ∧ g = 1 then (⟨2, l.at_, l.lf, l.wall, l.stop⟩, true)
  else if l.st = 2 ∧ g = 2 then (⟨1, l.at_, l.lf, l.wall, l.stop⟩, true)
  else if l.st = 1 ∧ g = 3 then (⟨3, l.at_ + 1, l.lf, l.wall, l.stop⟩, true)
  else if g = 6 ∨ g = 7 then (⟨8, l.at_, l.lf, l.wall, l.stop⟩, true)
  else (l, false)
def living (l : Life) (g : Int) : Life × Bool :=
  if g = 8 then (if l.st = 3 then (⟨5, l.at_, l.lf, l.wall, l.stop⟩, true) else (ended l, true))
  else if g = 4 then (⟨4, l.at_, l.lf, true, l.stop⟩, true)
  else if g = 5 then (⟨4, l.at_, l.lf, l.wall, l.stop⟩, true)
  else if g = 6 ∧ l.stop = false then (⟨4, l.at_, l.lf, l.wall, true⟩, true)
  else (l, false)
/-- a life behind a sign, and the error -/
def next (l : Life) (g : Int) : Life × Int :=
  if right l = true then
    (if waits l.st = true then (if (waiting l g).2 = true then ((waiting l g).1, 0) else (zero, 100))
     else if live l.st = true then (if (living l g).2 = true then ((living l g).1, 0) else (zero, 100))
     else (zero, 100))
  else (zero, 1)
def fresh (r : Int) (h : Bool) : Life × Int :=
  if r < 0 ∨ 5 < r then (zero, 1) else (⟨if h = true then 2 else 1, 0, r, false, false⟩, 0)

theorem right_iff {l : Life} : right l = true ↔ Rt l := by unfold right; simp

end Go.Proofs.YtmpggfcceepccaaDoor.Lif
