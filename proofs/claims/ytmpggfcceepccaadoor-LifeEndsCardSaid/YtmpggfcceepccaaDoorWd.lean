/- Walks of life.Name and of the laws' example (awake). -/
import Derived.Test.YtmpggfcceepccaaDoorWc
import Derived.Deep.QuietTactic
import Derived.BigQuiet
import Derived.Lib.Hide
import Derived.Deep.RegionWith
import Derived.Deep.RegionHeld3
import Derived.Deep.DeepCutAuto
import Derived.Deep.LoopGhost
namespace Go.Proofs.YtmpggfcceepccaaDoor
open Go.RowKit

def nm (i : Int) : ByteArray :=
  if i = 1 then ⟨#[112, 101, 110, 100, 105, 110, 103]⟩ else if i = 2 then ⟨#[104, 101, 108, 100]⟩ else if i = 3 then ⟨#[114, 117, 110, 110, 105, 110, 103]⟩ else if i = 4 then ⟨#[101, 110, 100, 105, 110, 103]⟩ else if i = 5 then ⟨#[100, 111, 110, 101]⟩ else if i = 6 then ⟨#[116, 105, 109, 101, 100, 111, 117, 116]⟩ else if i = 7 then ⟨#[102, 97, 105, 108, 101, 100]⟩ else if i = 8 then ⟨#[99, 97, 110, 99, 101, 108, 108, 101, 100]⟩ else ⟨#[]⟩

/-- the laid row of names -/
def Nms (w : World) : Prop := ∀ i : Nat, i < 9 → w.cell? ⟨0, i, none⟩ = some (.string (nm i))
theorem Nms.pass {w w' : World} (h : Nms w) (hb : Below w.heap.size w w') : Nms w' := fun i hi => keep_below (h i hi) hb

set_option maxHeartbeats 400000 in
theorem name_any (s : Int) (w : World) (hN : Nms w) : Calls Tryd.prog 19 #[.int .i64 s] w fun e w' => e = .returned (.string (nm s)) ∧ w = w' := by
  by_cases h : 1 ≤ s ∧ s ≤ 8
  · obtain ⟨i, rfl⟩ : ∃ i : Nat, s = (i : Int) := ⟨s.toNat, by omega⟩
    have c := hN i (by omega)
    have c1 : (i : Int) < 9 := by omega
    generalize nm i = v at *
    go_enter Tryd.func19, Tryd.ntmps19
    go_wp2_with fail
    go_ret
    exact ⟨rfl, rfl⟩
  · have e : nm s = ⟨#[]⟩ := by unfold nm; repeat rw [if_neg (by omega)]
    rw [e]
    go_enter Tryd.func19, Tryd.ntmps19
    go_wp2_with fail
    all_goals
      go_ret
      exact ⟨rfl, rfl⟩

def seqL : Nat → Lif.Life
  | 0 => ⟨1, 0, 1, false, false⟩
  | 1 => ⟨3, 1, 1, false, false⟩
  | 2 => ⟨4, 1, 1, false, false⟩
  | 3 => ⟨1, 1, 0, false, false⟩
  | 4 => ⟨3, 2, 0, false, false⟩
  | 5 => ⟨4, 2, 0, false, false⟩
  | _ => ⟨7, 2, 0, false, false⟩
def sg : Nat → Int
  | 0 => 3
  | 1 => 5
  | 2 => 8
  | 3 => 3
  | 4 => 5
  | _ => 8
theorem seq_next {k : Nat} (h : k < 6) : Lif.next (seqL k) (sg k) = (seqL (k + 1), 0) := by
  match k, h with
  | 0, _ => rfl
  | 1, _ => rfl
  | 2, _ => rfl
  | 3, _ => rfl
  | 4, _ => rfl
  | 5, _ => rfl
theorem seq_at {k : Nat} (h : k < 6) : -9223372036854775808 ≤ (seqL k).at_ ∧ (seqL k).at_ ≤ 9223372036854775807 := by
  match k, h with
  | 0, _ => exact ⟨by decide, by decide⟩
  | 1, _ => exact ⟨by decide, by decide⟩
  | 2, _ => exact ⟨by decide, by decide⟩
  | 3, _ => exact ⟨by decide, by decide⟩
  | 4, _ => exact ⟨by decide, by decide⟩
  | 5, _ => exact ⟨by decide, by decide⟩
theorem sg_at {k : Nat} (h : k < 6) : (#[Value.int .i64 3, .int .i64 5, .int .i64 8, .int .i64 3, .int .i64 5, .int .i64 8] : Array Value)[k]? = some (.int .i64 (sg k)) := by
  match k, h with
  | 0, _ => rfl
  | 1, _ => rfl
  | 2, _ => rfl
  | 3, _ => rfl
  | 4, _ => rfl
  | 5, _ => rfl

def lifeCells (l : Lif.Life) : Array Value := #[.int .i64 l.st, .int .i64 l.at_, .int .i64 l.lf, .bool l.wall, .bool l.stop]
theorem set_life {l : Lif.Life} {s a f : Int} {x y : Bool} : (((((lifeCells l).setIfInBounds 0 (.int .i64 s)).setIfInBounds 1 (.int .i64 a)).setIfInBounds 2 (.int .i64 f)).setIfInBounds 3 (.bool x)).setIfInBounds 4 (.bool y) = lifeCells ⟨s, a, f, x, y⟩ := rfl
theorem Bk.setLife {w : World} {g : Nat} {t : TypeId} {l : Lif.Life} (h : Bk w g t (lifeCells l)) (s a f : Int) (x y : Bool) :
    Bk (((((w.setCell ⟨g, 0, none⟩ (.int .i64 s)).setCell ⟨g, 1, none⟩ (.int .i64 a)).setCell ⟨g, 2, none⟩ (.int .i64 f)).setCell ⟨g, 3, none⟩ (.bool x)).setCell ⟨g, 4, none⟩ (.bool y)) g t (lifeCells ⟨s, a, f, x, y⟩) := by
  rw [← set_life (l := l)]
  exact ((((h.set 0 _).set 1 _).set 2 _).set 3 _).set 4 _

set_option maxHeartbeats 2000000 in
theorem awake_any (w : World) (hN : Nms w) : Calls Tryd.prog 9 #[] w fun e w' => e = .returned (.bool true) ∧ Below w.heap.size w w' := by
  go_enter Tryd.func9, Tryd.ntmps9
  go_wp2_with fail
  refine (new_any 1 false (⟨1, 0, 1, false, false⟩, 0) rfl _).mono ?_
  rintro e w1 ⟨rfl, hb1⟩
  have HN := Lib.hid hN
  clear hN
  go_wp2_with fail
  go_loopg [2, 4] 6 (fun g s2 s4 wr => ∃ k : Nat, k ≤ 6 ∧ g = 6 - k ∧ s4 = .int .i64 k ∧ s2 = .int .i64 0 ∧ Bk wr w1.heap.size 24 (lifeCells (seqL k)) ∧ Bk wr (w1.heap.size + 1) 25 #[.int .i64 3, .int .i64 5, .int .i64 8, .int .i64 3, .int .i64 5, .int .i64 8] ∧ Below w.heap.size w wr)
  case atStart => exact ⟨0, by omega, by omega, rfl, rfl, (Bk.new w1 _ _).alloc _, Bk.newAt (by simp), below_pass hb1 hb1.size (below2' w1 _ _)⟩
  case round =>
    obtain ⟨k, hk, hg, rfl, rfl, hl, hs, hB⟩ := hrel
    by_cases hlt : k < 6
    · have HX := Lib.hid (seq_next hlt)
      have hat := seq_at hlt
      have hlt' : (k : Int) < 6 := by omega
      have cs : wr.cell? ⟨w1.heap.size + 1, k, none⟩ = some (.int .i64 (sg k)) := hs.cell (sg_at hlt)
      have ck : wr.heap.size = wr.heap.size := rfl
      generalize seqL k = l0 at *
      generalize sg k = s0 at *
      obtain ⟨s, a, f, x, y⟩ := l0
      have c0 : wr.cell? ⟨w1.heap.size, 0, none⟩ = some (.int .i64 s) := hl.cell (i := 0) rfl
      have c1 : wr.cell? ⟨w1.heap.size, 1, none⟩ = some (.int .i64 a) := hl.cell (i := 1) rfl
      have c2 : wr.cell? ⟨w1.heap.size, 2, none⟩ = some (.int .i64 f) := hl.cell (i := 2) rfl
      have c3 : wr.cell? ⟨w1.heap.size, 3, none⟩ = some (.bool x) := hl.cell (i := 3) rfl
      have c4 : wr.cell? ⟨w1.heap.size, 4, none⟩ = some (.bool y) := hl.cell (i := 4) rfl
      simp only at hat
      obtain ⟨l1, H1⟩ : ∃ l1, Hid (seqL (k + 1) = l1) := ⟨_, Lib.hid rfl⟩
      have HX2 := HX.out
      rw [H1.out] at HX2
      go_upto_region 6 with fail
      go_region_with (go_at_call 10; refine (next_any s a f x y s0 hat (l1, 0) HX2 _).mono ?_; rintro e w2 ⟨rfl, hb⟩; have q := hl.drew.pass hb; have q2 := hs.drew.pass hb; have hB2 := below_pass (below_drewN hB 1) (show w.heap.size ≤ wr.drew.heap.size from hB.size) hb; have f0 := q.free 0; have f1 := q.free 1; have f2 := q.free 2; have f3 := q.free 3; have f4 := q.free 4; have c20 := q.cell (i := 0) rfl; have c21 := q.cell (i := 1) rfl; have c22 := q.cell (i := 2) rfl; have c23 := q.cell (i := 3) rfl; have c24 := q.cell (i := 4) rfl)
      all_goals
        go_wp2_with fail
        go_roundg (6 - (k + 1))
        case measure => omega
        case rel => exact ⟨k + 1, by omega, rfl, by go_num, rfl, (by rw [H1.out]; exact q.setLife _ _ _ _ _), ((((q2.far (by simp) _).far (by simp) _).far (by simp) _).far (by simp) _).far (by simp) _, set5 hB2 hb1.size _ _ _ _ _⟩
    · obtain rfl : k = 6 := by omega
      have c0 : wr.cell? ⟨w1.heap.size, 0, none⟩ = some (.int .i64 7) := hl.cell (i := 0) rfl
      have c1 : wr.cell? ⟨w1.heap.size, 1, none⟩ = some (.int .i64 2) := hl.cell (i := 1) rfl
      have c2 : wr.cell? ⟨w1.heap.size, 2, none⟩ = some (.int .i64 0) := hl.cell (i := 2) rfl
      have c3 : wr.cell? ⟨w1.heap.size, 3, none⟩ = some (.bool false) := hl.cell (i := 3) rfl
      have c4 : wr.cell? ⟨w1.heap.size, 4, none⟩ = some (.bool false) := hl.cell (i := 4) rfl
      go_wp2_with fail
      refine (over_any 7 true rfl _).mono ?_
      rintro e w2 ⟨rfl, rfl⟩
      go_wp2_with fail
      refine (name_any 7 _ (HN.out.pass hB)).mono ?_
      rintro e w2 ⟨rfl, rfl⟩
      have e7 : nm 7 = ⟨#[102, 97, 105, 108, 101, 100]⟩ := rfl
      rw [e7]
      go_wp2_with fail
      go_ret
      exact ⟨rfl, hB⟩
end Go.Proofs.YtmpggfcceepccaaDoor
