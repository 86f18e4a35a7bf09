/- LifeStays holds: whatever the input, the call returns true and what came in reads as it did. Conditions: none. -/
import Derived.Test.YtmpggfcceepccaaDoorLe
import Derived.Test.YtmpggfcceepccaaDoorCards
namespace Go.Proofs.YtmpggfcceepccaaDoor
open Go.ChangeShapes Go.WideShapes Go.ChangeAt Go.RowKit

set_option maxRecDepth 100000 in
theorem lifted_LifeStays (os : Os) (started : os.Started) (H : Type) (enc : TypeId × Value → H) :
    ReturnsInHanded {} Tryd.checked os 6 .any (fun w args => (Rows.lifeStaysSpec.pre enc Tryd.prog Tryd.f6 [] false w args ∧ laidMetH Tryd.prog laidN w) ∧ sizedMet enc Tryd.prog Tryd.f6 (OpenSpec.ofChange Rows.lifeStaysSpec) false w args) (Rows.lifeStaysSpec.post enc Tryd.prog Tryd.f6 false true false false) := by
  refine returnsInHanded_of_change_and (C := Tryd.checked) (X := fun w _ => laidMetH Tryd.prog laidN w) (fun _ _ _ hh h => h.of_heap hh) own_knob started (by kernel_rfl) Tryd.func6
    (ChangeSpec.witness_shaped (enc := enc) (C := Tryd.checked) (os := os) (X := fun w _ => laidMetH Tryd.prog laidN w) false (World.laidAll Tryd.prog os laidN) #[.int .i64 0, .bool false, .slice none 0 0] 8 (World.laidAll_os _ _ _)
      (World.shaped_of_ZipB (by kernel_rfl) (by kernel_rfl)) (by kernel_rfl) (by kernel_rfl) (by kernel_rfl)
      (by rw [MakeChecks.laidMetH_plain _ _ _ (by kernel_rfl)]; exact laidMet_laidAll _ (by kernel_rfl) (by kernel_rfl))) ?_
  intro W base args ds gs before hval0 hW _ _ hL _
  have hval : ∀ (j : Nat) t v, Tryd.f6.params[j]? = some t → args[j]? = some v → Value.okWide Tryd.prog W .any base t v := hval0
  have hW' := hW
  obtain ⟨p, q, hA0, hV, rfl, _, _⟩ := hW
  have hA : DataW.TrodAll enc Tryd.prog W 0 (fun _ => true) true Tryd.f6.params.toList args.toList ds p := hA0
  have hread : ∀ t ∈ Tryd.f6.params.toList, Tryd.prog.readableRec t = true ∧ t < Tryd.prog.types.size := by
    rw [Tryd.params6]
    exact List.forall_mem_cons.2 ⟨⟨by kernel_rfl, of_decide_eq_true (by kernel_rfl)⟩, List.forall_mem_cons.2 ⟨⟨by kernel_rfl, of_decide_eq_true (by kernel_rfl)⟩, List.forall_mem_cons.2 ⟨⟨by kernel_rfl, of_decide_eq_true (by kernel_rfl)⟩, by simp⟩⟩⟩
  have hA1 := hA
  rw [Tryd.params6] at hA1 hval
  obtain ⟨v0, vs0, d0, ds0, p0, q0, hargs, rfl, rfl, h0, r0⟩ := trodAll_cons hA1
  obtain ⟨v1, vs1, d1, ds1, p1, q1, rfl, rfl, rfl, h1, r1⟩ := trodAll_cons r0
  obtain ⟨v2, vs2, d2, ds2, p2, q2, rfl, rfl, rfl, h2, r2⟩ := trodAll_cons r1
  obtain ⟨rfl, rfl, rfl⟩ := trodAll_nil r2
  obtain rfl : args = #[v0, v1, v2] := by cases args; simp_all
  obtain ⟨rfl, rfl⟩ := trodVars_none hV
  obtain ⟨a0, rfl, wa0⟩ := open_num (hval 0 3 v0 rfl rfl) h0
  obtain ⟨a1, rfl⟩ := open_flag (hval 1 4 v1 rfl rfl) h1
  obtain ⟨A2, n2, c2, rfl, ro2⟩ := open_signs (hval 2 38 v2 rfl rfl) h2
  refine (walk_LifeStays a0 a1 A2 n2 c2 wa0 ro2 (nms_of_laid hL) ).mono fun e W' ⟨he, bel⟩ => ?_
  subst he
  exact ⟨_, rfl, _, _, _, [], _, [], hW', trodAll_mk1 (shut_bool Tryd.underlying4 _), trodAll_below laid_out bel _ _ _ _ hA hread, rfl, bel.frame _, fun h => by cases h⟩

theorem lifeStays_holds : Rows.LifeStaysSaid :=
  OpenClaim.holds_of_wide 6 Tryd.f6 rfl rfl rfl rfl rfl rfl rfl ⟨rfl, rfl, rfl, rfl, rfl⟩ rfl rfl rfl rfl rfl (by kernel_rfl) Tryd.func6 (by kernel_rfl)
    (of_decide_eq_true (by kernel_rfl)) (by unfold Func.isWrapper; rw [if_neg (of_decide_eq_false (by kernel_rfl))]; exact ⟨rfl, rfl⟩)
    (fun os started H enc _ => lifted_LifeStays os started H enc)

/-- THE TIED CARD. -/
theorem lifeStaysCard_holds : Rows.LifeStaysCardSaid :=
  Claim7.holds_tied_plain_at .later [] [.data] true (true, "571341a4a48b6a1cb79dbbe58ac00b2396a9eeb3c799a501157beac29052cadc") false
    lifeStays_holds (fun _ h => by cases h) (by kernel_rfl) (fun _ h => by cases h) lifeStays_row_tie rfl ⟨rfl, rfl⟩ (by kernel_rfl) rfl
    (fun f fn hf hfn => by
      obtain rfl : f = 6 := Option.some.inj ((show Tryd.prog.funcNamed "corvee/corveelaw10.LifeStays" = some 6 by kernel_rfl).symm.trans hf) |>.symm
      obtain rfl : fn = Tryd.f6 := (Option.some.inj (Tryd.func6.symm.trans hfn)).symm
      exact ⟨by kernel_rfl, fun j t ht => by
        rw [Tryd.params6] at ht
        have hm : t ∈ [3, 4, 38] := by simpa using Array.mem_of_getElem? ht
        have hall : ([3, 4, 38].all fun u => !Tryd.prog.wantsStandIn u) = true := by kernel_rfl
        exact (show Tryd.prog.wantsStandIn t = false by simpa using List.all_eq_true.1 hall t hm)⟩)
    (by kernel_rfl)

#print axioms lifeStaysCard_holds
end Go.Proofs.YtmpggfcceepccaaDoor
