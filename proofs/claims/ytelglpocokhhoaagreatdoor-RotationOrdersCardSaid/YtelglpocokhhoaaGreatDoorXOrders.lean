/- For any array of ints, klippelaw17.RotationOrders returns true: for every input, when the library's listed tables read as the program's text lays them. No other condition. -/
import Derived.Test.YtelglpocokhhoaaGreatDoorK4
import Derived.Test.YtelglpocokhhoaaGreatDoorTie
import Derived.Test.YtelglpocokhhoaaGreatDoorCards
import Derived.SevenTiedAt
namespace Go.Proofs.YtelglpocokhhoaaGreatDoor
open Go.ChangeShapes Go.WideShapes Go.ChangeAt Go.RowKit Go.Proofs.Kl
set_option maxRecDepth 100000 in
theorem cell_int {W : World} {r : Reach} {base : Nat} {u : TypeId} {k : IntKind} {v : Value} (hu : Tryz.prog.underlying u = some (.int k)) (h : Cell.okWide Tryz.prog W r base u v) : ∃ n, v = .int k n := by
  simp only [Cell.okWide, hu] at h
  cases v <;> simp_all [Cell.ok]
set_option maxRecDepth 100000 in
theorem arr4 {cs : Array Value} (h : cs.size = 4) : ∃ a b c d, cs = #[a, b, c, d] := by
  obtain ⟨l⟩ := cs
  match l, h with
  | [a, b, c, d], _ => exact ⟨a, b, c, d, rfl⟩
set_option maxRecDepth 100000 in
theorem open_q4 {W : World} {r : Reach} {base : Nat} {v : Value} (h : Value.okWide Tryz.prog W r base 22 v) : ∃ a b c d : Int, v = qv a b c d := by
  have hu : ∃ e, Tryz.prog.underlying 22 = some (.array 4 e) := ⟨_, Tryz.underlying22⟩
  obtain ⟨e, hu⟩ := hu
  simp only [Value.okWide, hu] at h
  obtain ⟨cs, rfl, hsz, ts, hts, _, hall⟩ := h
  have hts' : Tryz.prog.cellTypes Tryz.prog.depth 22 = some [3, 3, 3, 3] := by kernel_rfl
  obtain rfl := Option.some.inj (hts'.symm.trans hts)
  have hc : Tryz.prog.cellsOf 22 = 4 := by kernel_rfl
  obtain ⟨a, b, c, d, rfl⟩ := arr4 (hsz.trans hc)
  have key : ∀ i v, #[a, b, c, d][i]? = some v → i < 4 → ∃ n, v = .int .i64 n := by
    intro i v hv hi
    obtain ⟨u, hu1, hu2⟩ := hall i v hv
    have : u = 3 := by
      match i, hi with
      | 0, _ => simpa using hu1.symm
      | 1, _ => simpa using hu1.symm
      | 2, _ => simpa using hu1.symm
      | 3, _ => simpa using hu1.symm
    subst this
    exact cell_int Tryz.underlying3 hu2
  obtain ⟨a', rfl⟩ := key 0 a rfl (by decide)
  obtain ⟨b', rfl⟩ := key 1 b rfl (by decide)
  obtain ⟨c', rfl⟩ := key 2 c rfl (by decide)
  obtain ⟨d', rfl⟩ := key 3 d rfl (by decide)
  exact ⟨a', b', c', d', rfl⟩
theorem args_one {args : Array Value} (h : args.size = 1) : ∃ v, args = #[v] := by
  obtain ⟨l⟩ := args
  match l, h with
  | [v], _ => exact ⟨v, rfl⟩
theorem door_met (os : Os) (args : Array Value) : laidMetH Tryz.prog LL ((World.doorLaid Tryz.prog 62 os).forCall (fun _ _ => 0) ⟨#[], args, []⟩).memory :=
  laidMetH_of_parts3 (fuel := 8) (laidMet_of_run' 8 (by kernel_rfl) (by kernel_rfl)) (by kernel_rfl) (by kernel_rfl)
set_option maxRecDepth 100000 in
theorem rotationOrders_lifted (os : Os) (started : os.Started) (H : Type) (enc : TypeId × Value → H) :
    ReturnsInHanded {} Tryz.checked os 3 .any (fun w args => (Rows.rotationOrdersSpec.pre enc Tryz.prog Tryz.f3 [] false w args ∧ laidMetH Tryz.prog LL w) ∧ sizedMet enc Tryz.prog Tryz.f3 (OpenSpec.ofChange Rows.rotationOrdersSpec) false w args)
      (Rows.rotationOrdersSpec.post enc Tryz.prog Tryz.f3 false true false false) := by
  have hp := Tryz.params3
  refine lift_law started (by kernel_rfl) Tryz.func3 (by kernel_rfl) rfl (by kernel_rfl) ?_
    (ChangeSpec.witness_shaped (enc := enc) (C := Tryz.checked) (os := os) (X := fun w _ => laidMetH Tryz.prog LL w) false (World.doorLaid Tryz.prog 62 os) #[qv 0 0 0 0] 8 rfl (World.shaped_of_RefB (by kernel_rfl) (by kernel_rfl)) (by kernel_rfl) (by kernel_rfl) (by kernel_rfl) (door_met os _)) ?_
  · intro ds h
    rw [hp] at h
    match ds, h with
    | [d], _ => rfl
  · intro W base args hE hsz hval
    rw [hp] at hsz hval
    obtain ⟨v, rfl⟩ := args_one hsz
    obtain ⟨a, b, c, d, rfl⟩ := open_q4 (hval 0 _ _ rfl rfl)
    exact Orders_any a b c d W hE
theorem rotationOrders_holds : Rows.RotationOrdersSaid :=
  OpenClaim.holds_of_wide 3 Tryz.f3 rfl rfl rfl rfl rfl rfl rfl ⟨rfl, rfl, rfl, rfl, rfl⟩ rfl rfl rfl rfl rfl (by kernel_rfl) Tryz.func3 (by kernel_rfl)
    (of_decide_eq_true (by kernel_rfl)) (by unfold Func.isWrapper; rw [if_neg (by decide +kernel)]; exact ⟨rfl, rfl⟩)
    (fun os started H enc _ => rotationOrders_lifted os started H enc)
theorem rotationOrders_card : Rows.RotationOrdersCardSaid :=
  Claim7.holds_tied_plain_at .later [] [.data, .data, .data, .sentinel, .sentinel] true Rows.rotationOrdersCard.stood.harness true
    rotationOrders_holds (fun _ h => by cases h) (by kernel_rfl) (fun _ h => by cases h) rotationOrders_row_tie rfl ⟨rfl, rfl⟩ (by kernel_rfl) rfl
    (fun f fn hf hfn => by
      obtain rfl : f = 3 := Option.some.inj ((show Tryz.prog.funcNamed "klippe/klippelaw17.RotationOrders" = some 3 by kernel_rfl).symm.trans hf) |>.symm
      obtain rfl : fn = Tryz.f3 := (Option.some.inj (Tryz.func3.symm.trans hfn)).symm
      exact ⟨by kernel_rfl, fun j t ht => by
        rw [Tryz.params3] at ht
        have hm : t ∈ [22] := by simpa using Array.mem_of_getElem? ht
        have hall : ([22].all fun u => !Tryz.prog.wantsStandIn u) = true := by kernel_rfl
        exact (show Tryz.prog.wantsStandIn t = false by simpa using List.all_eq_true.1 hall t hm)⟩)
    (by kernel_rfl)
#print axioms rotationOrders_card
end Go.Proofs.YtelglpocokhhoaaGreatDoor
