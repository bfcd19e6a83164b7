/- For any two arrays of ints, klippelaw17.RotationPrimitive returns true: for every input, when the library's listed tables read as the program's text lays them. No other condition. -/
import Derived.Test.YtelglpocokhhoaaGreatDoorK5
import Derived.Test.YtelglpocokhhoaaGreatDoorK6
namespace Go.Proofs.YtelglpocokhhoaaGreatDoor
open Go.ChangeShapes Go.WideShapes Go.ChangeAt Go.RowKit Go.Proofs.Kl
set_option maxRecDepth 100000 in
theorem rotationPrimitive_lifted (os : Os) (started : os.Started) (H : Type) (enc : TypeId × Value → H) :
    ReturnsInHanded {} Tryz.checked os 7 .any (fun w args => (Rows.rotationPrimitiveSpec.pre enc Tryz.prog Tryz.f7 [] false w args ∧ laidMetH Tryz.prog LL w) ∧ sizedMet enc Tryz.prog Tryz.f7 (OpenSpec.ofChange Rows.rotationPrimitiveSpec) false w args)
      (Rows.rotationPrimitiveSpec.post enc Tryz.prog Tryz.f7 false true false false) := by
  have hp := Tryz.params7
  refine lift_law started (by kernel_rfl) Tryz.func7 (by kernel_rfl) rfl (by kernel_rfl) ?_
    (ChangeSpec.witness_shaped (enc := enc) (C := Tryz.checked) (os := os) (X := fun w _ => laidMetH Tryz.prog LL w) false (World.doorLaid Tryz.prog 62 os) #[qv 0 0 0 0, qv 0 0 0 0] 8 rfl (World.shaped_of_RefB (by kernel_rfl) (by kernel_rfl)) (by kernel_rfl) (by kernel_rfl) (by kernel_rfl) (door_met os _)) ?_
  · intro ds h
    rw [hp] at h
    match ds, h with
    | [d, e], _ => rfl
  · intro W base args hE hsz hval
    rw [hp] at hsz hval
    obtain ⟨u, v, rfl⟩ := args_two hsz
    obtain ⟨a, b, c, d, rfl⟩ := open_q4 (hval 0 _ _ rfl rfl)
    obtain ⟨a', b', c', d', rfl⟩ := open_q4 (hval 1 _ _ rfl rfl)
    exact LawPrimitive_any a b c d a' b' c' d' W hE
theorem rotationPrimitive_holds : Rows.RotationPrimitiveSaid :=
  OpenClaim.holds_of_wide 7 Tryz.f7 rfl rfl rfl rfl rfl rfl rfl ⟨rfl, rfl, rfl, rfl, rfl⟩ rfl rfl rfl rfl rfl (by kernel_rfl) Tryz.func7 (by kernel_rfl)
    (of_decide_eq_true (by kernel_rfl)) (by unfold Func.isWrapper; rw [if_neg (by decide +kernel)]; exact ⟨rfl, rfl⟩)
    (fun os started H enc _ => rotationPrimitive_lifted os started H enc)
theorem rotationPrimitive_card : Rows.RotationPrimitiveCardSaid :=
  Claim7.holds_tied_plain_at .later [] [.data, .data, .data, .sentinel, .sentinel] true Rows.rotationPrimitiveCard.stood.harness true
    rotationPrimitive_holds (fun _ h => by cases h) (by kernel_rfl) (fun _ h => by cases h) rotationPrimitive_row_tie rfl ⟨rfl, rfl⟩ (by kernel_rfl) rfl
    (fun f fn hf hfn => by
      obtain rfl : f = 7 := Option.some.inj ((show Tryz.prog.funcNamed "klippe/klippelaw17.RotationPrimitive" = some 7 by kernel_rfl).symm.trans hf) |>.symm
      obtain rfl : fn = Tryz.f7 := (Option.some.inj (Tryz.func7.symm.trans hfn)).symm
      exact ⟨by kernel_rfl, fun j t ht => by
        rw [Tryz.params7] at ht
        have hm : t ∈ [22] := by have := Array.mem_of_getElem? ht; simp at this; simp [this]
        have hall : ([22].all fun u => !Tryz.prog.wantsStandIn u) = true := by kernel_rfl
        exact (show Tryz.prog.wantsStandIn t = false by simpa using List.all_eq_true.1 hall t hm)⟩)
    (by kernel_rfl)
#print axioms rotationPrimitive_card
end Go.Proofs.YtelglpocokhhoaaGreatDoor
