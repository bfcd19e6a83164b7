/- Part 4 of the proof: the contracts that the statement's proof uses. -/
import Derived.Test.YtelglpocokhhoaaGreatDoorK2
import Derived.Test.YtelglpocokhhoaaGreatDoorK3
import Derived.RangeFuncBox
import Derived.Shelf.Abstract
import Derived.Lib.Builder
import Derived.BigQuiet
import Derived.Deep.RegionHeld3
import Derived.Test.YtelglpocokhhoaaGreatDoorRows
import Derived.ProofKit
import Derived.LaidMore
import Derived.OpenShut
import Derived.Stop.Joined
import Derived.Shelf.Vars
/- rotation: quaternions: Check, squares. -/
namespace Go.Proofs.Kl
open Go.RowKit Go.Shelf
/-- the error of a quaternion. -/
def qchk (a b c d : Int) : Int := if (1000000 < a ∨ a < -1000000) ∨ (1000000 < b ∨ b < -1000000) ∨ (1000000 < c ∨ c < -1000000) ∨ (1000000 < d ∨ d < -1000000) then 3 else if a = 0 ∧ b = 0 ∧ c = 0 ∧ d = 0 then 17 else 0
set_option maxRecDepth 100000 in
theorem closureCheck (n : Int) (w : World) : Calls Tryz.prog 63 #[.int .i64 n] w fun e w' => e = .returned (.bool (decide (1000000 < n ∨ n < -1000000))) ∧ w' = w := by
  by_cases h : 1000000 < n
  · go_enter Tryz.func63, Tryz.ntmps63
    go_wp2
    go_ret
    exact ⟨by simp [h], rfl⟩
  · go_enter Tryz.func63, Tryz.ntmps63
    go_wp2
    go_ret
    exact ⟨by simp; omega, rfl⟩
/-- where the first number of a kind stands. -/
def firstAt (P : Int → Bool) (zs : List Int) : Int := match zs.findIdx? P with | some k => (k : Int) | none => -1
set_option maxHeartbeats 1000000 in
set_option maxRecDepth 100000 in
theorem IndexFunc_any (f : Nat) (P : Int → Bool) (hf : ∀ n w, Calls Tryz.prog f #[.int .i64 n] w fun e w' => e = .returned (.bool (P n)) ∧ w' = w) (hent : ∀ args w, (callFunc f args).run Tryz.prog w = .ok (.enter f args) w)
    (b : Nat) (c : Nat) (zs : List Int) (w : World) (hl : zs.length ≤ 1000000) (hc : ∀ j, j < zs.length → w.cell? ⟨b, j, none⟩ = some (.int .i64 (zs.getD j 0))) :
    Calls Tryz.prog 103 #[.slice (some ⟨b, 0, none⟩) zs.length c, .func (.func f) #[] #[]] w fun e w' => e = .returned (.int .i64 (firstAt P zs)) ∧ w' = w := by
  have HC := Lib.hid hc
  have HF := Lib.hid hf
  clear hc hf
  go_enter Tryz.func103, Tryz.ntmps103
  go_wp2_with fail
  go_loopw [5, 8] (fun s5 i wr => ∃ k : Nat, k ≤ zs.length ∧ i = .int .i64 (k : Int) ∧ (∀ j, j < k → P (zs.getD j 0) = false) ∧ wr = w) (fun _ i _ => ((zs.length : Int) + 1 - intOf i).toNat)
  case atStart => exact ⟨0, by omega, rfl, fun j h => by omega, rfl⟩
  case round =>
    obtain ⟨k, hk, rfl, hp, rfl⟩ := hrel
    have HP := Lib.hid hp
    clear hp
    by_cases hlt : k < zs.length
    · have hcx := HC.out k hlt
      have hlt' : (k : Int) < (zs.length : Int) := by omega
      have HLT := Lib.hid hlt
      clear hlt
      obtain ⟨x, hx⟩ : ∃ x, x = zs.getD k 0 := ⟨_, rfl⟩
      rw [← hx] at hcx
      have HX := Lib.hid hx
      clear hx
      go_wp2_with fail
      refine (HF.out x wr).mono ?_
      cases hpx : P x with
      | true =>
        have hf : firstAt P zs = (k : Int) := by
          unfold firstAt
          have : zs.findIdx? P = some k := by
            rw [List.findIdx?_eq_some_iff_getElem]
            refine ⟨HLT.out, ?_, fun j hj => ?_⟩
            · have h1 := HX.out; simp [List.getD, HLT.out] at h1; rw [← h1]; exact hpx
            · have := HP.out j hj
              simp [List.getD, show j < zs.length from Nat.lt_trans hj HLT.out] at this
              simp [this]
          rw [this]
        have HFA := Lib.hid hf
        clear hf
        rintro e w' ⟨rfl, rfl⟩
        go_wp2_with fail
        go_ret
        exact ⟨by rw [HFA.out]; rfl, rfl⟩
      | false =>
        have HPX := Lib.hid hpx
        clear hpx
        rintro e w' ⟨rfl, rfl⟩
        go_wp2_with fail
        go_roundw
        case rel =>
          refine ⟨k + 1, by have := HLT.out; omega, by congr 1, fun j hj => ?_, trivial⟩
          rcases Nat.lt_succ_iff_lt_or_eq.1 hj with h | rfl
          · exact HP.out j h
          · rw [← HX.out]; exact HPX.out
        case measure => simp only [intOf]; omega
    · have hf : firstAt P zs = -1 := by
        unfold firstAt
        have : zs.findIdx? P = none := by
          rw [List.findIdx?_eq_none_iff]
          intro x hx
          obtain ⟨j, hj, rfl⟩ := List.getElem_of_mem hx
          have := HP.out j (by omega)
          simpa [List.getD, hj] using this
        rw [this]
      have HFA := Lib.hid hf
      clear hf
      have hlt' : ¬ (k : Int) < (zs.length : Int) := by omega
      go_wp2_with fail
      go_ret
      exact ⟨by rw [HFA.out]; rfl, rfl⟩

set_option maxRecDepth 100000 in
theorem ContainsFunc_any (f : Nat) (P : Int → Bool) (hf : ∀ n w, Calls Tryz.prog f #[.int .i64 n] w fun e w' => e = .returned (.bool (P n)) ∧ w' = w) (hent : ∀ args w, (callFunc f args).run Tryz.prog w = .ok (.enter f args) w)
    (b : Nat) (c : Nat) (zs : List Int) (w : World) (hl : zs.length ≤ 1000000) (hc : ∀ j, j < zs.length → w.cell? ⟨b, j, none⟩ = some (.int .i64 (zs.getD j 0))) :
    Calls Tryz.prog 62 #[.slice (some ⟨b, 0, none⟩) zs.length c, .func (.func f) #[] #[]] w fun e w' => e = .returned (.bool (decide (0 ≤ firstAt P zs))) ∧ w' = w := by
  have H := Lib.hid (IndexFunc_any f P hf hent b c zs w hl hc)
  go_enter Tryz.func62, Tryz.ntmps62
  go_wp2_with fail
  refine H.out.mono ?_
  rintro e w' ⟨rfl, rfl⟩
  go_wp2_with fail
  go_ret
  exact ⟨rfl, rfl⟩
/-- a quaternion's value. -/
abbrev qv (a b c d : Int) : Value := .agg #[.int .i64 a, .int .i64 b, .int .i64 c, .int .i64 d]
theorem run_eq4 (d : Nat) (a b c e a' b' c' e' : Int) (W : World) : (Op.equalIn (d + 2) 22 (qv a b c e) (qv a' b' c' e')).run Tryz.prog W = .ok (a == a' && (b == b' && (c == c' && e == e'))) W := by
  have hi : ∀ (x y : Int) (w : World), (Op.equalIn (d + 1) 3 (.int .i64 x) (.int .i64 y)).run Tryz.prog w = .ok (x == y) w := fun x y w => run_equalIn_int w d 3 .i64 .i64 x y Tryz.underlying3
  unfold Op.equalIn
  simp only [Sem.run_bind, run_underlying Tryz.underlying22, Result.andThen]
  simp only [Std.Legacy.Range.forIn_eq_forIn_range', Std.Legacy.Range.size, List.range'_succ, List.forIn_cons, List.range'_zero, List.forIn_nil]
  by_cases h1 : a = a' <;> by_cases h2 : b = b' <;> by_cases h3 : c = c' <;> by_cases h4 : e = e' <;>
    simp [part, Tryz.isAgg3, Tryz.sizeOf3, hi, Result.andThen, h1, h2, h3, h4]
@[go_sem] theorem run_eq4' (a b c e a' b' c' e' : Int) (W : World) : (Op.equalIn 10000 22 (.agg #[.int .i64 a, .int .i64 b, .int .i64 c, .int .i64 e]) (.agg #[.int .i64 a', .int .i64 b', .int .i64 c', .int .i64 e'])).run Tryz.prog W = .ok (a == a' && (b == b' && (c == c' && e == e'))) W := run_eq4 9998 a b c e a' b' c' e' W
theorem firstAt_nonneg (P : Int → Bool) (zs : List Int) : 0 ≤ firstAt P zs ↔ ∃ x ∈ zs, P x = true := by
  unfold firstAt
  cases h : zs.findIdx? P with
  | none =>
    rw [List.findIdx?_eq_none_iff] at h
    constructor
    · intro h1; simp at h1
    · rintro ⟨x, hx, hp⟩; rw [h x hx] at hp; cases hp
  | some k =>
    rw [List.findIdx?_eq_some_iff_getElem] at h
    obtain ⟨hk, hp, _⟩ := h
    exact ⟨fun _ => ⟨_, List.getElem_mem hk, hp⟩, fun _ => by simp⟩
theorem cell4 (w : World) (t : TypeId) (a b c d : Int) : ∀ j, j < [a, b, c, d].length → (w.alloc (.cells #[.int .i64 a, .int .i64 b, .int .i64 c, .int .i64 d] t)).cell? ⟨w.heap.size, j, none⟩ = some (.int .i64 ([a, b, c, d].getD j 0)) := by
  intro j hj
  rw [Lib.cell_of_heap (World.alloc_heap_new w _)]
  match j, hj with
  | 0, _ => rfl
  | 1, _ => rfl
  | 2, _ => rfl
  | 3, _ => rfl
set_option maxHeartbeats 1000000 in
set_option maxRecDepth 100000 in
/-- rotation.Check. -/
theorem QCheck_any (a b c d : Int) (w : World) : Calls Tryz.prog 22 #[qv a b c d] w (Ret (.int .i64 (qchk a b c d)) w) := by
  obtain ⟨R, hR⟩ : ∃ R, R = qchk a b c d := ⟨_, rfl⟩
  rw [← hR]
  have HR := Lib.hid hR
  clear hR
  have hcells := cell4 w 22 a b c d
  have hCF := ContainsFunc_any 63 _ closureCheck (enters_of Tryz.func63 (by kernel_rfl) rfl) w.heap.size 4 [a, b, c, d] _ (by simp) hcells
  have HCF := Lib.hid hCF
  have hb := (Below.refl w.heap.size w).alloc (Nat.le_refl _) (.cells #[.int .i64 a, .int .i64 b, .int .i64 c, .int .i64 d] 22)
  clear hcells hCF
  go_enter Tryz.func22, Tryz.ntmps22
  obtain ⟨B, hB⟩ : ∃ B, B = decide (0 ≤ firstAt (fun n => decide (1000000 < n ∨ n < -1000000)) [a, b, c, d]) := ⟨_, rfl⟩
  have hB1 : B = true ↔ (1000000 < a ∨ a < -1000000) ∨ (1000000 < b ∨ b < -1000000) ∨ (1000000 < c ∨ c < -1000000) ∨ (1000000 < d ∨ d < -1000000) := by
    rw [hB, decide_eq_true_iff, firstAt_nonneg]; simp
  have HCF2 := HCF.out
  rw [← hB] at HCF2
  have HCF3 := Lib.hid HCF2
  have HB1 := Lib.hid hB1
  clear HCF HCF2 hB hB1
  go_wp2_with fail
  refine HCF3.out.mono ?_
  rintro e w' ⟨rfl, rfl⟩
  cases B with
  | true =>
    have hR3 : R = 3 := by rw [HR.out, qchk, if_pos (HB1.out.1 rfl)]
    have HR3 := Lib.hid hR3
    clear hR3
    go_wp2_with fail
    go_ret
    exact ⟨by rw [HR3.out]; rfl, hb⟩
  | false =>
    have hno : ¬ ((1000000 < a ∨ a < -1000000) ∨ (1000000 < b ∨ b < -1000000) ∨ (1000000 < c ∨ c < -1000000) ∨ (1000000 < d ∨ d < -1000000)) := fun h => by have := HB1.out.2 h; cases this
    have HNO := Lib.hid hno
    clear hno
    by_cases h0 : a = 0 ∧ b = 0 ∧ c = 0 ∧ d = 0
    · obtain ⟨rfl, rfl, rfl, rfl⟩ := h0
      have hR3 : R = 17 := by rw [HR.out, qchk, if_neg HNO.out, if_pos ⟨rfl, rfl, rfl, rfl⟩]
      have HR3 := Lib.hid hR3
      clear hR3
      go_wp2_with fail
      go_ret
      exact ⟨by rw [HR3.out]; rfl, hb⟩
    · have hR3 : R = 0 := by rw [HR.out, qchk, if_neg HNO.out, if_neg h0]
      have HR3 := Lib.hid hR3
      have hz : (a == 0 && (b == 0 && (c == 0 && d == 0))) = false := by
        rw [Bool.eq_false_iff]; intro h; simp at h; exact h0 h
      clear hR3 h0
      go_wp2_with fail
      go_ret
      exact ⟨by rw [HR3.out]; rfl, hb⟩
end Go.Proofs.Kl
/- rotation: Order; the statement's check. -/
namespace Go.Proofs.Kl
open Go.RowKit Go.Shelf
theorem qchk_zero {a b c d : Int} (h : qchk a b c d = 0) : (-1000000 ≤ a ∧ a ≤ 1000000) ∧ (-1000000 ≤ b ∧ b ≤ 1000000) ∧ (-1000000 ≤ c ∧ c ≤ 1000000) ∧ (-1000000 ≤ d ∧ d ≤ 1000000) ∧ ¬ (a = 0 ∧ b = 0 ∧ c = 0 ∧ d = 0) := by
  unfold qchk at h
  split at h
  · omega
  · split at h <;> omega
theorem sq_bound {a : Int} (h : -1000000 ≤ a ∧ a ≤ 1000000) : 0 ≤ a * a ∧ a * a ≤ 1000000000000 := by
  constructor
  · rw [← Int.natAbs_mul_self' a]; exact Int.mul_nonneg (by omega) (by omega)
  · have h1 : a.natAbs * a.natAbs ≤ 1000000 * 1000000 := Nat.mul_le_mul (by omega) (by omega)
    have h2 := Int.natAbs_mul_self' a
    have h3 : ((a.natAbs * a.natAbs : Nat) : Int) = (a.natAbs : Int) * (a.natAbs : Int) := Int.natCast_mul _ _
    omega
set_option maxHeartbeats 1000000 in
set_option maxRecDepth 100000 in
theorem squares_any (a b c d : Int) (w : World) (ha : -1000000 ≤ a ∧ a ≤ 1000000) (hb : -1000000 ≤ b ∧ b ≤ 1000000) (hc : -1000000 ≤ c ∧ c ≤ 1000000) (hd : -1000000 ≤ d ∧ d ≤ 1000000) :
    Calls Tryz.prog 42 #[qv a b c d] w (Ret (.tuple #[.int .i64 (a * a), .int .i64 (b * b + c * c + d * d)]) w) := by
  have h1 := sq_bound ha
  have h2 := sq_bound hb
  have h3 := sq_bound hc
  have h4 := sq_bound hd
  have hb := (Below.refl w.heap.size w).alloc (Nat.le_refl _) (.cells #[.int .i64 a, .int .i64 b, .int .i64 c, .int .i64 d] 22)
  clear ha hb hc hd
  have hb := (Below.refl w.heap.size w).alloc (Nat.le_refl _) (.cells #[.int .i64 a, .int .i64 b, .int .i64 c, .int .i64 d] 22)
  go_enter Tryz.func42, Tryz.ntmps42
  go_wp2_with fail
  go_quiet (fail)
  go_wp2
  go_ret2
  exact ⟨rfl, below_drewN hb _⟩
/-- how often a rotation is done. -/
def qord (w r : Int) : Int := if r = 0 then 1 else if w = 0 then 2 else if r = 3 * w then 3 else if r = w then 4 else if w = 3 * r then 6 else 0
set_option maxHeartbeats 1000000 in
set_option maxRecDepth 100000 in
theorem Order_any (a b c d : Int) (w : World) (h : qchk a b c d = 0) :
    Calls Tryz.prog 13 #[qv a b c d] w (Ret (.tuple #[.int .i64 (qord (a * a) (b * b + c * c + d * d)), .bool (decide (0 < qord (a * a) (b * b + c * c + d * d))), .int .i64 0]) w) := by
  obtain ⟨h1, h2, h3, h4, -⟩ := qchk_zero h
  have hb := (Below.refl w.heap.size w).alloc (Nat.le_refl _) (.cells #[.int .i64 a, .int .i64 b, .int .i64 c, .int .i64 d] 22)
  have HQ := Lib.hid h
  have HSQ := Lib.hid (fun w' => squares_any a b c d w' h1 h2 h3 h4)
  have s1 := sq_bound h1
  have s2 := sq_bound h2
  have s3 := sq_bound h3
  have s4 := sq_bound h4
  obtain ⟨W, hW⟩ : ∃ W, W = a * a := ⟨_, rfl⟩
  obtain ⟨R, hR⟩ : ∃ R, R = b * b + c * c + d * d := ⟨_, rfl⟩
  rw [← hW, ← hR]
  have b1 : 0 ≤ W ∧ W ≤ 1000000000000 := by rw [hW]; exact s1
  have b2 : 0 ≤ R ∧ R ≤ 3000000000000 := by omega
  have HW := Lib.hid hW
  have HR := Lib.hid hR
  clear h h1 h2 h3 h4 s1 s2 s3 s4 hW hR
  go_enter Tryz.func13, Tryz.ntmps13
  go_wp2_with fail
  refine (QCheck_any a b c d _).mono ?_
  rw [HQ.out]
  rintro e w1 ⟨rfl, hb1⟩
  have hc0 : w1.cell? ⟨w.heap.size, 0, none⟩ = some (.int .i64 a) := cell_below hb1 (cell4 w 22 a b c d 0 (by simp))
  have hc1 : w1.cell? ⟨w.heap.size, 1, none⟩ = some (.int .i64 b) := cell_below hb1 (cell4 w 22 a b c d 1 (by simp))
  have hc2 : w1.cell? ⟨w.heap.size, 2, none⟩ = some (.int .i64 c) := cell_below hb1 (cell4 w 22 a b c d 2 (by simp))
  have hc3 : w1.cell? ⟨w.heap.size, 3, none⟩ = some (.int .i64 d) := cell_below hb1 (cell4 w 22 a b c d 3 (by simp))
  have hbw := below_trans hb hb1
  go_wp2_with fail
  refine (HSQ.out w1).mono ?_
  rw [← HW.out, ← HR.out]
  rintro e w2 ⟨rfl, hb2⟩
  have hbf := below_trans hbw hb2
  obtain ⟨Q, hQ⟩ : ∃ Q, Q = qord W R := ⟨_, rfl⟩
  by_cases r0 : R = 0
  · have h : qord W R = 1 := if_pos r0
    have H := Lib.hid h
    clear h
    go_wp2_with fail
    go_ret3
    exact ⟨by rw [H.out]; rfl, hbf⟩
  by_cases r1 : W = 0
  · have h : qord W R = 2 := by rw [qord, if_neg r0, if_pos r1]
    have H := Lib.hid h
    clear h
    go_wp2_with fail
    go_ret3
    exact ⟨by rw [H.out]; rfl, hbf⟩
  by_cases r2 : R = 3 * W
  · have h : qord W R = 3 := by rw [qord, if_neg r0, if_neg r1, if_pos r2]
    have H := Lib.hid h
    clear h
    go_wp2_with fail
    go_ret3
    exact ⟨by rw [H.out]; rfl, hbf⟩
  by_cases r3 : R = W
  · have h : qord W R = 4 := by rw [qord, if_neg r0, if_neg r1, if_neg r2, if_pos r3]
    have H := Lib.hid h
    clear h
    go_wp2_with fail
    go_ret3
    exact ⟨by rw [H.out]; rfl, hbf⟩
  by_cases r4 : W = 3 * R
  · have h : qord W R = 6 := by rw [qord, if_neg r0, if_neg r1, if_neg r2, if_neg r3, if_pos r4]
    have H := Lib.hid h
    clear h
    go_wp2_with fail
    go_ret3
    exact ⟨by rw [H.out]; rfl, hbf⟩
  · have h : qord W R = 0 := by rw [qord, if_neg r0, if_neg r1, if_neg r2, if_neg r3, if_neg r4]
    have H := Lib.hid h
    clear h
    go_wp2_with fail
    go_ret3
    exact ⟨by rw [H.out]; rfl, hbf⟩
set_option maxHeartbeats 1000000 in
set_option maxRecDepth 100000 in
/-- the statement's check. -/
theorem Lcheck_any (a b c d : Int) (w : World) : Calls Tryz.prog 12 #[qv a b c d] w (Ret (.int .i64 (qchk a b c d)) w) := by
  obtain ⟨R, hR⟩ : ∃ R, R = qchk a b c d := ⟨_, rfl⟩
  rw [← hR]
  have HR := Lib.hid hR
  clear hR
  have HC4 := Lib.hid (cell4 w 22 a b c d)
  have hb := (Below.refl w.heap.size w).alloc (Nat.le_refl _) (.cells #[.int .i64 a, .int .i64 b, .int .i64 c, .int .i64 d] 22)
  obtain ⟨zs, hz⟩ : ∃ zs, zs = [a, b, c, d] := ⟨_, rfl⟩
  have hz4 : zs.length = 4 := by rw [hz]; rfl
  have HZ := Lib.hid hz
  have HC := Lib.hid (by have := HC4.out; rw [← hz] at this; exact this)
  clear hz HC4
  go_enter Tryz.func12, Tryz.ntmps12
  go_wp2_with fail
  go_loopw [3] (fun i wr => ∃ k : Nat, k ≤ 4 ∧ i = .int .i64 (k : Int) ∧ (∀ j, j < k → ¬ (1000000 < zs.getD j 0 ∨ zs.getD j 0 < -1000000)) ∧ wr = w.alloc (.cells #[.int .i64 a, .int .i64 b, .int .i64 c, .int .i64 d] 22)) (fun i _ => (5 - intOf i).toNat)
  case atStart => exact ⟨0, by omega, rfl, fun j h => by omega, rfl⟩
  case round =>
    obtain ⟨k, hk, rfl, hp, rfl⟩ := hrel
    have HP := Lib.hid hp
    clear hp
    by_cases hlt : k < 4
    · have hcx := HC.out k (by rw [hz4]; exact hlt)
      obtain ⟨x, hx⟩ : ∃ x, x = zs.getD k 0 := ⟨_, rfl⟩
      rw [← hx] at hcx
      have HX := Lib.hid hx
      clear hx
      by_cases hlow : x < -1000000
      · have hR3 : R = 3 := by
          rw [HR.out, qchk, if_pos]
          have h1 := HX.out; rw [HZ.out] at h1
          match k, hlt with
          | 0, _ => simp at h1; omega
          | 1, _ => simp at h1; omega
          | 2, _ => simp at h1; omega
          | 3, _ => simp at h1; omega
        have HR3 := Lib.hid hR3
        clear hR3
        go_wp2_with fail
        go_ret
        exact ⟨by rw [HR3.out]; rfl, hb⟩
      · by_cases hhigh : 1000000 < x
        · have hR3 : R = 3 := by
            rw [HR.out, qchk, if_pos]
            have h1 := HX.out; rw [HZ.out] at h1
            match k, hlt with
            | 0, _ => simp at h1; omega
            | 1, _ => simp at h1; omega
            | 2, _ => simp at h1; omega
            | 3, _ => simp at h1; omega
          have HR3 := Lib.hid hR3
          clear hR3
          go_wp2_with fail
          go_ret
          exact ⟨by rw [HR3.out]; rfl, hb⟩
        · go_wp2_with fail
          go_roundw
          case rel =>
            refine ⟨k + 1, by omega, by congr 1, fun j hj => ?_, trivial⟩
            rcases Nat.lt_succ_iff_lt_or_eq.1 hj with h | rfl
            · exact HP.out j h
            · rw [← HX.out]; omega
          case measure => simp only [intOf]; omega
    · obtain rfl : k = 4 := by omega
      have hno : ¬ ((1000000 < a ∨ a < -1000000) ∨ (1000000 < b ∨ b < -1000000) ∨ (1000000 < c ∨ c < -1000000) ∨ (1000000 < d ∨ d < -1000000)) := by
        have p0 := HP.out 0 (by omega)
        have p1 := HP.out 1 (by omega)
        have p2 := HP.out 2 (by omega)
        have p3 := HP.out 3 (by omega)
        rw [HZ.out] at p0 p1 p2 p3
        simp at p0 p1 p2 p3
        omega
      have HNO := Lib.hid hno
      clear hno
      by_cases h0 : a = 0 ∧ b = 0 ∧ c = 0 ∧ d = 0
      · obtain ⟨rfl, rfl, rfl, rfl⟩ := h0
        have hR3 : R = 17 := by rw [HR.out, qchk, if_neg HNO.out, if_pos ⟨rfl, rfl, rfl, rfl⟩]
        have HR3 := Lib.hid hR3
        clear hR3
        go_wp2_with fail
        go_ret
        exact ⟨by rw [HR3.out]; rfl, hb⟩
      · have hR3 : R = 0 := by rw [HR.out, qchk, if_neg HNO.out, if_neg h0]
        have HR3 := Lib.hid hR3
        have hz : (a == 0 && (b == 0 && (c == 0 && d == 0))) = false := by
          rw [Bool.eq_false_iff]; intro h; simp at h; exact h0 h
        clear hR3 h0
        go_wp2_with fail
        go_ret
        exact ⟨by rw [HR3.out]; rfl, hb⟩
end Go.Proofs.Kl
/- rotation: rational.Of; the rows of a rotation. -/
namespace Go.Proofs.Kl
open Go.RowKit Go.Shelf
set_option maxRecDepth 100000 in
theorem ROf_any (n d : Int) (w : World) (hE : Env w) (hd : d ≠ 0) (h1 : n.natAbs ≤ 9000000000000000000) (h2 : d.natAbs ≤ 9000000000000000000) :
    Calls Tryz.prog 64 #[.int .i64 n, .int .i64 d] w (Ret (.tuple #[.string (tx (rt (Rat.divInt n d))), .int .i64 0]) w) := by
  have n1 : Lib.nDigits n.natAbs ≤ 400000000 := Nat.le_trans ((nDigits_le (k := 19) (by decide)).2 (by omega)) (by decide)
  have n2 : Lib.nDigits d.natAbs ≤ 400000000 := Nat.le_trans ((nDigits_le (k := 19) (by decide)).2 (by omega)) (by decide)
  have HN := Lib.hid (fun w1 => fun h => New_any n d w1 h hd n1 n2)
  go_enter Tryz.func64, Tryz.ntmps64
  go_wp2_with fail
  refine (Of_any n (by omega) (by omega) w hE).mono ?_
  rintro e w1 ⟨rfl, hb1⟩
  go_wp2_with fail
  refine (Of_any d (by omega) (by omega) w1 (hE.below hb1)).mono ?_
  rintro e w2 ⟨rfl, hb2⟩
  go_wp2_with fail
  refine (HN.out w2 ((hE.below hb1).below hb2)).mono ?_
  rintro e w3 ⟨rfl, hb3⟩
  go_wp2
  go_ret2
  exact ⟨rfl, below_trans (below_trans hb1 hb2) hb3⟩
/-- a vector's value. -/
abbrev v3 (x y z : Rat) : Value := .agg #[.string (tx (rt x)), .string (tx (rt y)), .string (tx (rt z))]
abbrev sv (q : Rat) : Value := .string (tx (rt q))
attribute [local go_sem] Instr.index part asIntOf
abbrev s0 : Value := .string { data := #[] }
theorem heap_lt {w : World} {b : Nat} {o : Obj} (h : w.heap[b]? = some o) : b < w.heap.size := (Array.getElem?_eq_some_iff.1 h).1
theorem heap_alloc_old {w : World} {b : Nat} {o : Obj} (o' : Obj) (h : w.heap[b]? = some o) : (w.alloc o').heap[b]? = some o := by
  have := heap_lt h
  show (w.heap.push o')[b]? = _
  rw [Array.getElem?_push_lt this]; exact (Array.getElem?_eq_some_iff.1 h).2 ▸ rfl
set_option maxHeartbeats 1000000 in
set_option maxRecDepth 100000 in
theorem rows1_any (a b c s : Int) (bs : Nat) (w : World) (hE : Env w) (hs : w.cell? ⟨bs, 0, none⟩ = some (.int .i64 s)) (hs0 : 0 < s) (hs1 : s ≤ 9000000000000000000)
    (ha : a.natAbs ≤ 9000000000000000000) (hb : b.natAbs ≤ 9000000000000000000) (hc : c.natAbs ≤ 9000000000000000000) :
    Calls Tryz.prog 95 #[.int .i64 a, .int .i64 b, .int .i64 c, .pointer (some ⟨bs, 0, none⟩)] w (Ret (v3 (Rat.divInt a s) (Rat.divInt b s) (Rat.divInt c s)) w) := by
  have HO := Lib.hid (fun n w1 => fun h1 h2 => ROf_any n s w1 h1 (by omega) h2 (by omega))
  have HE := Lib.hid hE
  have HS := Lib.hid hs
  have HA := Lib.hid ha
  have HB := Lib.hid hb
  have HC := Lib.hid hc
  obtain ⟨x, hx⟩ : ∃ x, x = Rat.divInt a s := ⟨_, rfl⟩
  obtain ⟨y, hy⟩ : ∃ y, y = Rat.divInt b s := ⟨_, rfl⟩
  obtain ⟨z, hz⟩ : ∃ z, z = Rat.divInt c s := ⟨_, rfl⟩
  rw [← hx, ← hy, ← hz]
  have HX := Lib.hid hx
  have HY := Lib.hid hy
  have HZ := Lib.hid hz
  clear hE hs0 hs1 ha hb hc hx hy hz hs
  go_enter Tryz.func95, Tryz.ntmps95
  go_wp2_with fail
  go_loopw [9, 10, 15] (fun s9 s10 i wr => ∃ (wq : World) (k : Nat), wq = wr ∧ k ≤ 3 ∧ i = .int .i64 (k : Int) ∧ Below w.heap.size w wq ∧ wq.heap[w.heap.size]? = some (.cells #[s0, s0, s0] 41 (0, 0))
      ∧ wq.heap[w.heap.size + 1]? = some (.cells #[if 0 < k then sv x else s0, if 1 < k then sv y else s0, if 2 < k then sv z else s0] 92 (0, 0))) (fun _ _ i _ => (4 - intOf i).toNat)
  case atStart =>
    refine ⟨_, 0, rfl, by omega, rfl, ?_, ?_, ?_⟩
    · exact ((Below.refl w.heap.size w).alloc (Nat.le_refl _) _).alloc (by simp) _
    · exact heap_alloc_old _ (World.alloc_heap_new w _)
    · have := World.alloc_heap_new (w.alloc (.cells #[s0, s0, s0] 41)) (.cells #[s0, s0, s0] 92)
      simpa using this
  case round =>
    obtain ⟨wr, k, rfl, hk, rfl, hbr, hh0, hh1⟩ := hrel
    have hz := hbr.size
    have hcs := cell_below hbr HS.out
    by_cases hlt : k < 3
    · rcases (show k = 0 ∨ k = 1 ∨ k = 2 by omega) with rfl | rfl | rfl
      case' inl => have HW := Lib.hid (⟨HX.out, HA.out⟩ : x = Rat.divInt a s ∧ _)
      case' inr.inl => have HW := Lib.hid (⟨HY.out, HB.out⟩ : y = Rat.divInt b s ∧ _)
      case' inr.inr => have HW := Lib.hid (⟨HZ.out, HC.out⟩ : z = Rat.divInt c s ∧ _)
      all_goals
        go_wp2_with fail
        refine (HO.out _ wr (HE.out.below hbr) HW.out.2).mono ?_
        rw [← HW.out.1]
        rintro e w1 ⟨rfl, hb1⟩
        have hbr1 := below_trans hbr hb1
        have g0 := (hb1.block _ (heap_lt hh0)).trans hh0
        have g1 := (hb1.block _ (heap_lt hh1)).trans hh1
        have HG0 := Lib.hid g0
        have HG1 := Lib.hid g1
        simp only [Nat.lt_irrefl, Nat.zero_lt_succ, if_true, if_false, Nat.not_lt_zero] at g1
        have fz : ∀ i, w1.frozen? ⟨w.heap.size + 1, i, none⟩ = false := fun i => by simp [World.frozen?, g1]
        have c0 : ∃ v, w1.cell? ⟨w.heap.size + 1, 0, none⟩ = some v := ⟨_, (Lib.cell_of_heap g1 0).trans rfl⟩
        have c1 : ∃ v, w1.cell? ⟨w.heap.size + 1, 1, none⟩ = some v := ⟨_, (Lib.cell_of_heap g1 1).trans rfl⟩
        have c2 : ∃ v, w1.cell? ⟨w.heap.size + 1, 2, none⟩ = some v := ⟨_, (Lib.cell_of_heap g1 2).trans rfl⟩
        obtain ⟨v0, c0⟩ := c0
        obtain ⟨v1, c1⟩ := c1
        obtain ⟨v2, c2⟩ := c2
        clear hh0 hh1 g0 g1
        go_wp2
        go_roundw
        · first
            | refine ⟨_, 1, rfl, by omega, rfl, hbr1.setCell (by simp) _, by rw [heap_setCell_other _ _ _ _ (by simp)]; exact HG0.out, ?_⟩
              rw [heap_setCell_same _ _ _ _ _ _ HG1.out]; simp; done
            | refine ⟨_, 2, rfl, by omega, rfl, hbr1.setCell (by simp) _, by rw [heap_setCell_other _ _ _ _ (by simp)]; exact HG0.out, ?_⟩
              rw [heap_setCell_same _ _ _ _ _ _ HG1.out]; simp; done
            | refine ⟨_, 3, rfl, by omega, rfl, hbr1.setCell (by simp) _, by rw [heap_setCell_other _ _ _ _ (by simp)]; exact HG0.out, ?_⟩
              rw [heap_setCell_same _ _ _ _ _ _ HG1.out]; simp; done
        · simp only [intOf]; omega
    · obtain rfl : k = 3 := by omega
      have g1 := hh1
      simp only [show (0 < 3) = True by decide, show (1 < 3) = True by decide, show (2 < 3) = True by decide, if_true] at g1
      have c0 := (Lib.cell_of_heap g1 0).trans rfl
      have c1 := (Lib.cell_of_heap g1 1).trans rfl
      have c2 := (Lib.cell_of_heap g1 2).trans rfl
      have d0 := (Lib.cell_of_heap hh0 0).trans rfl
      have d1 := (Lib.cell_of_heap hh0 1).trans rfl
      have d2 := (Lib.cell_of_heap hh0 2).trans rfl
      have fz : ∀ i, wr.frozen? ⟨w.heap.size, i, none⟩ = false := fun i => Lib.frozen_of_heap hh0 i
      have HH := Lib.hid hh0
      clear hh0 hh1 g1
      go_wp2
      have h1 := heap_setCell_same _ _ 0 _ _ (sv x) HH.out
      have h2 := heap_setCell_same _ _ 1 _ _ (sv y) h1
      have h3 := heap_setCell_same _ _ 2 _ _ (sv z) h2
      exact bodyPost_ret (v := v3 x y z) (by simp [results, Tryz.results95, go_sem, Lib.cell_of_heap h3]) rfl ⟨rfl, ((hbr.setCell (Nat.le_refl _) _).setCell (Nat.le_refl _) _).setCell (Nat.le_refl _) _⟩
end Go.Proofs.Kl
/- rotation: rows. -/
namespace Go.Proofs.Kl
open Go.RowKit Go.Shelf
theorem mul_bd6 {a b : Int} (ha : -1000000 ≤ a ∧ a ≤ 1000000) (hb : -1000000 ≤ b ∧ b ≤ 1000000) : -1000000000000 ≤ a * b ∧ a * b ≤ 1000000000000 := by
  have h1 : a.natAbs * b.natAbs ≤ 1000000 * 1000000 := Nat.mul_le_mul (by omega) (by omega)
  rw [← Int.natAbs_mul] at h1
  omega
/-- the rows of a rotation, ahead of the division. -/
def m00 (a b c d : Int) : Int := a * a + b * b - c * c - d * d
def m01 (a b c d : Int) : Int := 2 * (b * c - a * d)
def m02 (a b c d : Int) : Int := 2 * (b * d + a * c)
def m10 (a b c d : Int) : Int := 2 * (b * c + a * d)
def m11 (a b c d : Int) : Int := a * a - b * b + c * c - d * d
def m12 (a b c d : Int) : Int := 2 * (c * d - a * b)
def m20 (a b c d : Int) : Int := 2 * (b * d - a * c)
def m21 (a b c d : Int) : Int := 2 * (c * d + a * b)
def m22 (a b c d : Int) : Int := a * a - b * b - c * c + d * d
def nrm (a b c d : Int) : Int := a * a + b * b + c * c + d * d
/-- three rows' value. -/
abbrev v9 (p q r s t u v w x : Rat) : Value := .agg #[sv p, sv q, sv r, sv s, sv t, sv u, sv v, sv w, sv x]
theorem nrm_pos {a b c d : Int} (h : ¬ (a = 0 ∧ b = 0 ∧ c = 0 ∧ d = 0)) : 0 < nrm a b c d := by
  have s1 := Int.natAbs_mul_self' a
  have s2 := Int.natAbs_mul_self' b
  have s3 := Int.natAbs_mul_self' c
  have s4 := Int.natAbs_mul_self' d
  have p : ∀ x : Int, x ≠ 0 → 0 < x * x := fun x hx => by
    rw [← Int.natAbs_mul_self' x]; exact Int.mul_pos (by omega) (by omega)
  have q : ∀ x : Int, 0 ≤ x * x := fun x => by
    rw [← Int.natAbs_mul_self' x]; exact Int.mul_nonneg (by omega) (by omega)
  have := q a; have := q b; have := q c; have := q d
  unfold nrm
  by_cases h1 : a = 0
  · by_cases h2 : b = 0
    · by_cases h3 : c = 0
      · have := p d (fun h4 => h ⟨h1, h2, h3, h4⟩); omega
      · have := p c h3; omega
    · have := p b h2; omega
  · have := p a h1; omega
theorem heap_new3 (W : World) (o : Obj) (n : Nat) (h : n = W.heap.size) : (W.alloc o).heap[n]? = some o := by rw [h]; exact World.alloc_heap_new W o
theorem cell_new3 (W : World) (v : Value) (t : TypeId) {n : Nat} (h : n = W.heap.size) : (W.alloc (.cells #[v] t)).cell? ⟨n, 0, none⟩ = some v := (Lib.cell_of_heap (heap_new3 W _ n h) 0).trans rfl
set_option maxHeartbeats 4000000 in
set_option maxRecDepth 100000 in
theorem rows_any (a b c d : Int) (w : World) (hE : Env w) (h : qchk a b c d = 0) :
    Calls Tryz.prog 48 #[qv a b c d] w (Ret (v9 (Rat.divInt (m00 a b c d) (nrm a b c d)) (Rat.divInt (m01 a b c d) (nrm a b c d)) (Rat.divInt (m02 a b c d) (nrm a b c d))
      (Rat.divInt (m10 a b c d) (nrm a b c d)) (Rat.divInt (m11 a b c d) (nrm a b c d)) (Rat.divInt (m12 a b c d) (nrm a b c d))
      (Rat.divInt (m20 a b c d) (nrm a b c d)) (Rat.divInt (m21 a b c d) (nrm a b c d)) (Rat.divInt (m22 a b c d) (nrm a b c d))) w) := by
  obtain ⟨h1, h2, h3, h4, h0⟩ := qchk_zero h
  have hn := nrm_pos h0
  have haa := mul_bd6 h1 h1
  have hbb := mul_bd6 h2 h2
  have hcc := mul_bd6 h3 h3
  have hdd := mul_bd6 h4 h4
  have hbc := mul_bd6 h2 h3
  have had := mul_bd6 h1 h4
  have hbd := mul_bd6 h2 h4
  have hac := mul_bd6 h1 h3
  have hcd := mul_bd6 h3 h4
  have hab := mul_bd6 h1 h2
  have HE := Lib.hid hE
  have HN : Hid (0 < nrm a b c d ∧ nrm a b c d ≤ 9000000000000000000) := Lib.hid ⟨hn, by unfold nrm; omega⟩
  have HM : Hid ((m00 a b c d).natAbs ≤ 9000000000000000000 ∧ (m01 a b c d).natAbs ≤ 9000000000000000000 ∧ (m02 a b c d).natAbs ≤ 9000000000000000000
     ∧ (m10 a b c d).natAbs ≤ 9000000000000000000 ∧ (m11 a b c d).natAbs ≤ 9000000000000000000 ∧ (m12 a b c d).natAbs ≤ 9000000000000000000
     ∧ (m20 a b c d).natAbs ≤ 9000000000000000000 ∧ (m21 a b c d).natAbs ≤ 9000000000000000000 ∧ (m22 a b c d).natAbs ≤ 9000000000000000000) :=
    Lib.hid ⟨by unfold m00; omega, by unfold m01; omega, by unfold m02; omega, by unfold m10; omega, by unfold m11; omega, by unfold m12; omega, by unfold m20; omega, by unfold m21; omega, by unfold m22; omega⟩
  clear h h1 h2 h3 h4 h0 hn hE
  go_enter Tryz.func48, Tryz.ntmps48
  go_wp2_with fail
  go_quiet (fail)
  go_wp2_with fail
  refine (rows1_any (m00 a b c d) (m01 a b c d) (m02 a b c d) (nrm a b c d) _ _ (HE.out.below (below_drewN (((Below.refl w.heap.size w).alloc (Nat.le_refl _) _).alloc (by simp) _) _ |>.alloc (by simp; omega) _)) (cell_new3 _ _ _ (by simp)) HN.out.1 HN.out.2 HM.out.1 HM.out.2.1 HM.out.2.2.1).mono ?_
  rintro e w1 ⟨rfl, hb1⟩
  have hbw1 : Below w.heap.size w w1 := below_trans (below_drewN (((Below.refl w.heap.size w).alloc (Nat.le_refl _) _).alloc (by simp) _) _ |>.alloc (by simp; omega) _) hb1
  have hc1 : w1.cell? ⟨w.heap.size + 1 + 1, 0, none⟩ = some (.int .i64 (nrm a b c d)) := cell_below hb1 (cell_new3 _ _ _ (by simp))
  have hk1 : w1.heap[w.heap.size + 1]? = some (.cells #[s0, s0, s0, s0, s0, s0, s0, s0, s0] 43 (0, 0)) :=
    (hb1.block _ (by simp)).trans (heap_alloc_old _ (heap_new3 _ _ _ (by simp)))
  have HC1 := Lib.hid hc1
  have HK1 := Lib.hid hk1
  clear hc1 hk1
  go_wp2_with fail
  refine (rows1_any (m10 a b c d) (m11 a b c d) (m12 a b c d) (nrm a b c d) _ _ (HE.out.below hbw1) HC1.out HN.out.1 HN.out.2 HM.out.2.2.2.1 HM.out.2.2.2.2.1 HM.out.2.2.2.2.2.1).mono ?_
  rintro e w2 ⟨rfl, hb2⟩
  have hbw2 := below_trans hbw1 hb2
  go_wp2_with fail
  refine (rows1_any (m20 a b c d) (m21 a b c d) (m22 a b c d) (nrm a b c d) _ _ (HE.out.below hbw2) (cell_below hb2 HC1.out) HN.out.1 HN.out.2 HM.out.2.2.2.2.2.2.1 HM.out.2.2.2.2.2.2.2.1 HM.out.2.2.2.2.2.2.2.2).mono ?_
  rintro e w3 ⟨rfl, hb3⟩
  have hbw3 := below_trans hbw2 hb3
  have hk3 : w3.heap[w.heap.size + 1]? = some (.cells #[s0, s0, s0, s0, s0, s0, s0, s0, s0] 43 (0, 0)) :=
    (hb3.block _ (Nat.lt_of_lt_of_le (heap_lt HK1.out) hb2.size)).trans ((hb2.block _ (heap_lt HK1.out)).trans HK1.out)
  have HK3 := Lib.hid hk3
  have fz : ∀ i, w3.frozen? ⟨w.heap.size + 1, i, none⟩ = false := fun i => Lib.frozen_of_heap hk3 i
  have d0 := (Lib.cell_of_heap hk3 0).trans rfl
  have d1 := (Lib.cell_of_heap hk3 1).trans rfl
  have d2 := (Lib.cell_of_heap hk3 2).trans rfl
  have d3 := (Lib.cell_of_heap hk3 3).trans rfl
  have d4 := (Lib.cell_of_heap hk3 4).trans rfl
  have d5 := (Lib.cell_of_heap hk3 5).trans rfl
  have d6 := (Lib.cell_of_heap hk3 6).trans rfl
  have d7 := (Lib.cell_of_heap hk3 7).trans rfl
  have d8 := (Lib.cell_of_heap hk3 8).trans rfl
  clear hk3
  go_wp2
  have g0 := heap_setCell_same _ _ 0 _ _ (sv (Rat.divInt (m00 a b c d) (nrm a b c d))) HK3.out
  have g1 := heap_setCell_same _ _ 1 _ _ (sv (Rat.divInt (m01 a b c d) (nrm a b c d))) g0
  have g2 := heap_setCell_same _ _ 2 _ _ (sv (Rat.divInt (m02 a b c d) (nrm a b c d))) g1
  have g3 := heap_setCell_same _ _ 3 _ _ (sv (Rat.divInt (m10 a b c d) (nrm a b c d))) g2
  have g4 := heap_setCell_same _ _ 4 _ _ (sv (Rat.divInt (m11 a b c d) (nrm a b c d))) g3
  have g5 := heap_setCell_same _ _ 5 _ _ (sv (Rat.divInt (m12 a b c d) (nrm a b c d))) g4
  have g6 := heap_setCell_same _ _ 6 _ _ (sv (Rat.divInt (m20 a b c d) (nrm a b c d))) g5
  have g7 := heap_setCell_same _ _ 7 _ _ (sv (Rat.divInt (m21 a b c d) (nrm a b c d))) g6
  have g8 := heap_setCell_same _ _ 8 _ _ (sv (Rat.divInt (m22 a b c d) (nrm a b c d))) g7
  have hbf := hbw3
  have hbf := hbf.setCell (p := ⟨w.heap.size + 1, 0, none⟩) (by simp) (sv (Rat.divInt (m00 a b c d) (nrm a b c d)))
  have hbf := hbf.setCell (p := ⟨w.heap.size + 1, 1, none⟩) (by simp) (sv (Rat.divInt (m01 a b c d) (nrm a b c d)))
  have hbf := hbf.setCell (p := ⟨w.heap.size + 1, 2, none⟩) (by simp) (sv (Rat.divInt (m02 a b c d) (nrm a b c d)))
  have hbf := hbf.setCell (p := ⟨w.heap.size + 1, 3, none⟩) (by simp) (sv (Rat.divInt (m10 a b c d) (nrm a b c d)))
  have hbf := hbf.setCell (p := ⟨w.heap.size + 1, 4, none⟩) (by simp) (sv (Rat.divInt (m11 a b c d) (nrm a b c d)))
  have hbf := hbf.setCell (p := ⟨w.heap.size + 1, 5, none⟩) (by simp) (sv (Rat.divInt (m12 a b c d) (nrm a b c d)))
  have hbf := hbf.setCell (p := ⟨w.heap.size + 1, 6, none⟩) (by simp) (sv (Rat.divInt (m20 a b c d) (nrm a b c d)))
  have hbf := hbf.setCell (p := ⟨w.heap.size + 1, 7, none⟩) (by simp) (sv (Rat.divInt (m21 a b c d) (nrm a b c d)))
  have hbf := hbf.setCell (p := ⟨w.heap.size + 1, 8, none⟩) (by simp) (sv (Rat.divInt (m22 a b c d) (nrm a b c d)))
  exact bodyPost_ret (v := v9 _ _ _ _ _ _ _ _ _) (by simp [results, Tryz.results48, go_sem, Lib.cell_of_heap g8]) rfl ⟨rfl, hbf⟩
end Go.Proofs.Kl
/- rotation: dot. -/
namespace Go.Proofs.Kl
open Go.RowKit Go.Shelf
theorem cell3 (w : World) (t : TypeId) (x y z : Value) : ∀ v j, [x, y, z][j]? = some v → (w.alloc (.cells #[x, y, z] t)).cell? ⟨w.heap.size, j, none⟩ = some v := by
  intro v j h
  rw [Lib.cell_of_heap (World.alloc_heap_new w _)]
  simpa using h
theorem sumq3 (a b c : Rat) : sumq [a, b, c] = a + b + c := by simp [sumq, Rat.zero_add]
set_option maxHeartbeats 2000000 in
set_option maxRecDepth 100000 in
theorem dot_rt (x y z p q r : Rat) (w : World) (hE : Env w) (hx : Rg 1000000 x) (hy : Rg 1000000 y) (hz : Rg 1000000 z) (hp : Rg 1000000 p) (hq : Rg 1000000 q) (hr : Rg 1000000 r) :
    Calls Tryz.prog 94 #[v3 x y z, v3 p q r] w (Ret (sv (x * p + y * q + z * r)) w) := by
  have H1 := Lib.hid (fun w' hw => RMul_rt x p w' hw (hx.mono (by decide)) (hp.mono (by decide)))
  have H2 := Lib.hid (fun w' hw => RMul_rt y q w' hw (hy.mono (by decide)) (hq.mono (by decide)))
  have H3 := Lib.hid (fun w' hw => RMul_rt z r w' hw (hz.mono (by decide)) (hr.mono (by decide)))
  have h1 := hx.mul hp
  have h2 := hy.mul hq
  have h3 := hz.mul hr
  obtain ⟨a, ha⟩ : ∃ a, a = x * p := ⟨_, rfl⟩
  obtain ⟨b, hb⟩ : ∃ b, b = y * q := ⟨_, rfl⟩
  obtain ⟨c, hc⟩ : ∃ c, c = z * r := ⟨_, rfl⟩
  rw [← ha] at h1 H1
  rw [← hb] at h2 H2
  rw [← hc] at h3 H3
  rw [← ha, ← hb, ← hc, ← sumq3]
  have H4 := Lib.hid (fun v w' hw hv => RSum_rt [a, b, c] v w' hw hv (show 3 ≤ 1000000 by decide) (by
      intro k hk
      match k, hk with
      | 0, _ => exact h1.mono (by decide)
      | 1, _ => exact h2.mono (by decide)
      | 2, _ => exact h3.mono (by decide)) (by
      intro k hk
      match k, hk with
      | 0, _ => exact (show Rg 1 (0 : Rat) from Rg_int (n := 0) (by rw [show Int.natAbs 0 = 0 from rfl, Lib.nDigits_small (by decide)]; decide)).mono (by decide)
      | 1, _ => exact (show Rg 3000000 (sumq [a]) by simp only [sumq, List.foldl, Rat.zero_add]; exact h1.mono (by decide)).mono (by decide)
      | 2, _ => exact (show Rg (2000000 + 2000000 + 1) (sumq [a, b]) by simp only [sumq, List.foldl, Rat.zero_add]; exact h1.add h2).mono (by decide)))
  have H5 := Lib.hid (fun w' hw => H4.out _ _ hw (Ts_made w' 39 [rt a, rt b, rt c]))
  have HE := Lib.hid hE
  clear h1 h2 h3 ha hb hc hx hy hz hp hq hr hE H4
  obtain ⟨X, hX⟩ : ∃ X, X = tx (rt x) := ⟨_, rfl⟩
  obtain ⟨Y, hY⟩ : ∃ X, X = tx (rt y) := ⟨_, rfl⟩
  obtain ⟨Z, hZ⟩ : ∃ X, X = tx (rt z) := ⟨_, rfl⟩
  obtain ⟨P, hP⟩ : ∃ X, X = tx (rt p) := ⟨_, rfl⟩
  obtain ⟨Q, hQ⟩ : ∃ X, X = tx (rt q) := ⟨_, rfl⟩
  obtain ⟨R, hR⟩ : ∃ X, X = tx (rt r) := ⟨_, rfl⟩
  obtain ⟨A, hA⟩ : ∃ X, X = tx (rt a) := ⟨_, rfl⟩
  obtain ⟨B, hB⟩ : ∃ X, X = tx (rt b) := ⟨_, rfl⟩
  obtain ⟨C, hC⟩ : ∃ X, X = tx (rt c) := ⟨_, rfl⟩
  simp only [List.map, ← hA, ← hB, ← hC] at H5
  rw [← hX, ← hP, ← hA] at H1
  rw [← hY, ← hQ, ← hB] at H2
  rw [← hZ, ← hR, ← hC] at H3
  obtain ⟨S, hS⟩ : ∃ X, X = tx (rt (sumq [a, b, c])) := ⟨_, rfl⟩
  rw [← hS] at H5
  show Calls Tryz.prog 94 #[.agg #[.string (tx (rt x)), .string (tx (rt y)), .string (tx (rt z))], .agg #[.string (tx (rt p)), .string (tx (rt q)), .string (tx (rt r))]] w (Ret (.string (tx (rt (sumq [a, b, c])))) w)
  rw [← hX, ← hY, ← hZ, ← hP, ← hQ, ← hR, ← hS]
  clear hX hY hZ hP hQ hR hA hB hC hS
  go_enter Tryz.func94, Tryz.ntmps94
  go_upto_region 1 with fail
  have hbw : Below w.heap.size w ((w.alloc (.cells #[Value.string X, Value.string Y, Value.string Z] 41)).alloc (.cells #[Value.string P, Value.string Q, Value.string R] 41)) :=
    ((Below.refl w.heap.size w).alloc (Nat.le_refl _) _).alloc (by simp) _
  have b1 : ((w.alloc (.cells #[Value.string X, Value.string Y, Value.string Z] 41)).alloc (.cells #[Value.string P, Value.string Q, Value.string R] 41)).heap[w.heap.size]? = some (.cells #[Value.string X, Value.string Y, Value.string Z] 41) := heap_alloc_old _ (World.alloc_heap_new w _)
  have b2 : ((w.alloc (.cells #[Value.string X, Value.string Y, Value.string Z] 41)).alloc (.cells #[Value.string P, Value.string Q, Value.string R] 41)).heap[w.heap.size + 1]? = some (.cells #[Value.string P, Value.string Q, Value.string R] 41) := heap_new3 _ _ _ (by simp)
  generalize hW : ((w.alloc (.cells #[Value.string X, Value.string Y, Value.string Z] 41)).alloc (.cells #[Value.string P, Value.string Q, Value.string R] 41)) = W at *
  have x0 : W.cell? ⟨w.heap.size, 0, none⟩ = some (Value.string X) := (Lib.cell_of_heap b1 0).trans rfl
  have x1 : W.cell? ⟨w.heap.size, 1, none⟩ = some (Value.string Y) := (Lib.cell_of_heap b1 1).trans rfl
  have x2 : W.cell? ⟨w.heap.size, 2, none⟩ = some (Value.string Z) := (Lib.cell_of_heap b1 2).trans rfl
  have y0 : W.cell? ⟨w.heap.size + 1, 0, none⟩ = some (Value.string P) := (Lib.cell_of_heap b2 0).trans rfl
  have y1 : W.cell? ⟨w.heap.size + 1, 1, none⟩ = some (Value.string Q) := (Lib.cell_of_heap b2 1).trans rfl
  have y2 : W.cell? ⟨w.heap.size + 1, 2, none⟩ = some (Value.string R) := (Lib.cell_of_heap b2 2).trans rfl
  clear hW b1 b2
  go_region_held3 (fun w' => w'.cell? ⟨w.heap.size, 0, none⟩ = some (Value.string X) ∧ w'.cell? ⟨w.heap.size, 1, none⟩ = some (Value.string Y) ∧ w'.cell? ⟨w.heap.size, 2, none⟩ = some (Value.string Z)
      ∧ w'.cell? ⟨w.heap.size + 1, 0, none⟩ = some (Value.string P) ∧ w'.cell? ⟨w.heap.size + 1, 1, none⟩ = some (Value.string Q) ∧ w'.cell? ⟨w.heap.size + 1, 2, none⟩ = some (Value.string R))
    (first
      | exact ⟨cell_below hb9 (cell_below ((below_trans hb7 hb8).alloc (below_trans hb7 hb8).size _) (cell_below hb6 x0)), cell_below hb9 (cell_below ((below_trans hb7 hb8).alloc (below_trans hb7 hb8).size _) (cell_below hb6 x1)), cell_below hb9 (cell_below ((below_trans hb7 hb8).alloc (below_trans hb7 hb8).size _) (cell_below hb6 x2)), cell_below hb9 (cell_below ((below_trans hb7 hb8).alloc (below_trans hb7 hb8).size _) (cell_below hb6 y0)), cell_below hb9 (cell_below ((below_trans hb7 hb8).alloc (below_trans hb7 hb8).size _) (cell_below hb6 y1)), cell_below hb9 (cell_below ((below_trans hb7 hb8).alloc (below_trans hb7 hb8).size _) (cell_below hb6 y2))⟩
      | exact ⟨cell_below ((below_trans hb7 hb8).alloc (below_trans hb7 hb8).size _) (cell_below hb6 x0), cell_below ((below_trans hb7 hb8).alloc (below_trans hb7 hb8).size _) (cell_below hb6 x1), cell_below ((below_trans hb7 hb8).alloc (below_trans hb7 hb8).size _) (cell_below hb6 x2), cell_below ((below_trans hb7 hb8).alloc (below_trans hb7 hb8).size _) (cell_below hb6 y0), cell_below ((below_trans hb7 hb8).alloc (below_trans hb7 hb8).size _) (cell_below hb6 y1), cell_below ((below_trans hb7 hb8).alloc (below_trans hb7 hb8).size _) (cell_below hb6 y2)⟩
      | exact ⟨cell_below (below_trans hb7 hb8) (cell_below hb6 x0), cell_below (below_trans hb7 hb8) (cell_below hb6 x1), cell_below (below_trans hb7 hb8) (cell_below hb6 x2), cell_below (below_trans hb7 hb8) (cell_below hb6 y0), cell_below (below_trans hb7 hb8) (cell_below hb6 y1), cell_below (below_trans hb7 hb8) (cell_below hb6 y2)⟩
      | exact ⟨cell_below hb7 (cell_below hb6 x0), cell_below hb7 (cell_below hb6 x1), cell_below hb7 (cell_below hb6 x2), cell_below hb7 (cell_below hb6 y0), cell_below hb7 (cell_below hb6 y1), cell_below hb7 (cell_below hb6 y2)⟩
      | exact ⟨cell_below hb6 x0, cell_below hb6 x1, cell_below hb6 x2, cell_below hb6 y0, cell_below hb6 y1, cell_below hb6 y2⟩
      | exact ⟨x0, x1, x2, y0, y1, y2⟩)
    (first
      | (go_at_call 143; refine (H5.out w8 (HE.out.below ((below_trans (below_trans (below_trans hbw.drew hb6) hb7) hb8).alloc (below_trans (below_trans (below_trans hbw.drew hb6) hb7) hb8).size _))).mono ?_; rintro e w9 ⟨rfl, hb9⟩)
      | (go_at_call 68; refine (H3.out w7 (HE.out.below (below_trans (below_trans hbw.drew hb6) hb7))).mono ?_; rintro e w8 ⟨rfl, hb8⟩)
      | (go_at_call 68; refine (H2.out w6 (HE.out.below (below_trans hbw.drew hb6))).mono ?_; rintro e w7 ⟨rfl, hb7⟩)
      | (go_at_call 68; refine (H1.out _ (HE.out.below hbw.drew)).mono ?_; rintro e w6 ⟨rfl, hb6⟩))
  go_wp2
  go_ret
  refine ⟨rfl, ?_⟩
  exact below_trans ((below_trans (below_trans (below_trans hbw.drew hb6) hb7) hb8).alloc (below_trans (below_trans (below_trans hbw.drew hb6) hb7) hb8).size _) hb9
end Go.Proofs.Kl
/- rotation: result, both, turned. -/
namespace Go.Proofs.Kl
open Go.RowKit Go.Shelf
abbrev K12 (B' B1 : Nat) (M0 M1 M2 M3 M4 M5 M6 M7 M8 P Q R : ByteArray) (w' : World) : Prop :=
  w'.cell? ⟨B', 0, none⟩ = some (Value.string M0) ∧ w'.cell? ⟨B', 1, none⟩ = some (Value.string M1) ∧ w'.cell? ⟨B', 2, none⟩ = some (Value.string M2) ∧ w'.cell? ⟨B', 3, none⟩ = some (Value.string M3) ∧ w'.cell? ⟨B', 4, none⟩ = some (Value.string M4) ∧ w'.cell? ⟨B', 5, none⟩ = some (Value.string M5) ∧ w'.cell? ⟨B', 6, none⟩ = some (Value.string M6) ∧ w'.cell? ⟨B', 7, none⟩ = some (Value.string M7) ∧ w'.cell? ⟨B', 8, none⟩ = some (Value.string M8) ∧ w'.cell? ⟨B1, 0, none⟩ = some (Value.string P) ∧ w'.cell? ⟨B1, 1, none⟩ = some (Value.string Q) ∧ w'.cell? ⟨B1, 2, none⟩ = some (Value.string R)
theorem K12_below {B' B1 : Nat} {M0 M1 M2 M3 M4 M5 M6 M7 M8 P Q R : ByteArray} {W w' : World} (hb : Below W.heap.size W w') (h : K12 B' B1 M0 M1 M2 M3 M4 M5 M6 M7 M8 P Q R W) : K12 B' B1 M0 M1 M2 M3 M4 M5 M6 M7 M8 P Q R w' := by
  obtain ⟨h0, h1, h2, h3, h4, h5, h6, h7, h8, h9, h10, h11⟩ := h
  exact ⟨cell_below hb h0, cell_below hb h1, cell_below hb h2, cell_below hb h3, cell_below hb h4, cell_below hb h5, cell_below hb h6, cell_below hb h7, cell_below hb h8, cell_below hb h9, cell_below hb h10, cell_below hb h11⟩
theorem K12_set {B' B1 B2 : Nat} {M0 M1 M2 M3 M4 M5 M6 M7 M8 P Q R : ByteArray} {W : World} (h1 : B2 ≠ B') (h2 : B2 ≠ B1) (i : Nat) (u : Value) (h : K12 B' B1 M0 M1 M2 M3 M4 M5 M6 M7 M8 P Q R W) : K12 B' B1 M0 M1 M2 M3 M4 M5 M6 M7 M8 P Q R (W.setCell ⟨B2, i, none⟩ u) := by
  have n1 : ∀ j, (⟨B2, i, none⟩ : Addr) ≠ ⟨B', j, none⟩ := fun j e => h1 (congrArg Addr.block e)
  have n2 : ∀ j, (⟨B2, i, none⟩ : Addr) ≠ ⟨B1, j, none⟩ := fun j e => h2 (congrArg Addr.block e)
  obtain ⟨h0, h1, h2, h3, h4, h5, h6, h7, h8, h9, h10, h11⟩ := h
  exact ⟨(World.cell?_setCell_other (w := W) (v := u) (h := n1 _)).trans h0, (World.cell?_setCell_other (w := W) (v := u) (h := n1 _)).trans h1, (World.cell?_setCell_other (w := W) (v := u) (h := n1 _)).trans h2, (World.cell?_setCell_other (w := W) (v := u) (h := n1 _)).trans h3, (World.cell?_setCell_other (w := W) (v := u) (h := n1 _)).trans h4, (World.cell?_setCell_other (w := W) (v := u) (h := n1 _)).trans h5, (World.cell?_setCell_other (w := W) (v := u) (h := n1 _)).trans h6, (World.cell?_setCell_other (w := W) (v := u) (h := n1 _)).trans h7, (World.cell?_setCell_other (w := W) (v := u) (h := n1 _)).trans h8, (World.cell?_setCell_other (w := W) (v := u) (h := n2 _)).trans h9, (World.cell?_setCell_other (w := W) (v := u) (h := n2 _)).trans h10, (World.cell?_setCell_other (w := W) (v := u) (h := n2 _)).trans h11⟩
set_option maxRecDepth 100000 in
theorem both_any (a b c d : Int) (x y z : List UInt8) (w : World) (hE : Env w) (hx : x.length ≤ 4000000000) (hy : y.length ≤ 4000000000) (hz : z.length ≤ 4000000000) :
    Calls Tryz.prog 44 #[qv a b c d, .agg #[.string (tx x), .string (tx y), .string (tx z)]] w (Ret (.int .i64 (if qchk a b c d = 0 then numsR [x, y, z] else qchk a b c d)) w) := by
  obtain ⟨R, hR⟩ : ∃ R, R = qchk a b c d := ⟨_, rfl⟩
  have HQ := Lib.hid (fun w' => QCheck_any a b c d w')
  rw [← hR] at HQ ⊢
  have HV := Lib.hid (fun w' hw => VCheck_any x y z w' hw hx hy hz)
  have HE := Lib.hid hE
  clear hR hE hx hy hz
  have hb0 := ((Below.refl w.heap.size w).alloc (Nat.le_refl _) (.cells #[.int .i64 a, .int .i64 b, .int .i64 c, .int .i64 d] 22)).alloc (by simp) (.cells #[.string (tx x), .string (tx y), .string (tx z)] 41)
  by_cases hr : R = 0
  · subst hr
    rw [if_pos rfl]
    go_enter Tryz.func44, Tryz.ntmps44
    go_wp2_with fail
    refine (HQ.out _).mono ?_
    rintro e w1 ⟨rfl, hb1⟩
    have hbw := below_trans hb0 hb1
    have c0 : w1.cell? ⟨w.heap.size + 1, 0, none⟩ = some (.string (tx x)) := cell_below hb1 ((Lib.cell_of_heap (heap_new3 _ _ _ (by simp)) 0).trans rfl)
    have c1 : w1.cell? ⟨w.heap.size + 1, 1, none⟩ = some (.string (tx y)) := cell_below hb1 ((Lib.cell_of_heap (heap_new3 _ _ _ (by simp)) 1).trans rfl)
    have c2 : w1.cell? ⟨w.heap.size + 1, 2, none⟩ = some (.string (tx z)) := cell_below hb1 ((Lib.cell_of_heap (heap_new3 _ _ _ (by simp)) 2).trans rfl)
    go_wp2_with fail
    refine (HV.out w1 (HE.out.below hbw)).mono ?_
    rintro e w2 ⟨rfl, hb2⟩
    go_wp2
    go_ret
    exact ⟨rfl, below_trans hbw hb2⟩
  · rw [if_neg hr]
    go_enter Tryz.func44, Tryz.ntmps44
    go_wp2_with fail
    refine (HQ.out _).mono ?_
    rintro e w1 ⟨rfl, hb1⟩
    have hbw := below_trans hb0 hb1
    go_wp2_with fail
    go_ret
    exact ⟨rfl, hbw⟩
set_option maxRecDepth 100000 in
theorem result_ok (x y z : List UInt8) (w : World) (hE : Env w) (hx : x.length ≤ 4000000000) (hy : y.length ≤ 4000000000) (hz : z.length ≤ 4000000000) :
    Calls Tryz.prog 46 #[.agg #[.string (tx x), .string (tx y), .string (tx z)]] w
      (Ret (if numsR [x, y, z] = 0 then .tuple #[.agg #[.string (tx x), .string (tx y), .string (tx z)], .int .i64 0] else .tuple #[.agg #[s0, s0, s0], .int .i64 4]) w) := by
  have HV := Lib.hid (fun w' hw => VCheck_any x y z w' hw hx hy hz)
  have HE := Lib.hid hE
  obtain ⟨R, hR⟩ : ∃ R, R = numsR [x, y, z] := ⟨_, rfl⟩
  rw [← hR] at HV ⊢
  clear hR hE hx hy hz
  have hb0 := ((Below.refl w.heap.size w).alloc (Nat.le_refl _) (.cells #[.string (tx x), .string (tx y), .string (tx z)] 41)).alloc (by simp) (.cells #[s0, s0, s0] 41)
  obtain ⟨T, hT⟩ : ∃ T, T = Ret (if R = 0 then .tuple #[.agg #[.string (tx x), .string (tx y), .string (tx z)], .int .i64 0] else .tuple #[.agg #[s0, s0, s0], .int .i64 4]) w := ⟨_, rfl⟩
  rw [← hT]
  have HT := Lib.hid hT
  clear hT
  go_enter Tryz.func46, Tryz.ntmps46
  go_wp2_with fail
  refine (HV.out _ (HE.out.below hb0)).mono ?_
  rintro e w1 ⟨rfl, hb1⟩
  have hbw := below_trans hb0 hb1
  have k1 : w1.heap[w.heap.size + 1]? = some (.cells #[s0, s0, s0] 41 (0, 0)) := (hb1.block _ (by simp)).trans (heap_new3 _ _ _ (by simp))
  have k0 : w1.heap[w.heap.size]? = some (.cells #[.string (tx x), .string (tx y), .string (tx z)] 41 (0, 0)) := (hb1.block _ (by simp; omega)).trans (heap_alloc_old _ (World.alloc_heap_new w _))
  have c0 := (Lib.cell_of_heap k0 0).trans rfl
  have c1 := (Lib.cell_of_heap k0 1).trans rfl
  have c2 := (Lib.cell_of_heap k0 2).trans rfl
  have d0 := (Lib.cell_of_heap k1 0).trans rfl
  have d1 := (Lib.cell_of_heap k1 1).trans rfl
  have d2 := (Lib.cell_of_heap k1 2).trans rfl
  have fz : ∀ i, w1.frozen? ⟨w.heap.size + 1, i, none⟩ = false := fun i => Lib.frozen_of_heap k1 i
  have HK := Lib.hid k1
  clear k0 k1
  by_cases hr : R = 0
  · rw [if_pos hr] at HT
    subst hr
    go_wp2_with fail
    have h1 := heap_setCell_same _ _ 0 _ _ (.string (tx x)) HK.out
    have h2 := heap_setCell_same _ _ 1 _ _ (.string (tx y)) h1
    have h3 := heap_setCell_same _ _ 2 _ _ (.string (tx z)) h2
    rw [HT.out]
    exact bodyPost_ret (v := .tuple #[.agg #[.string (tx x), .string (tx y), .string (tx z)], .int .i64 0]) (by simp [results, Tryz.results46, go_sem, Lib.cell_of_heap h3]) rfl ⟨rfl, ((hbw.setCell (by simp) _).setCell (by simp) _).setCell (by simp) _⟩
  · rw [if_neg hr] at HT
    go_wp2_with fail
    have h1 := heap_setCell_same _ _ 0 _ _ s0 HK.out
    have h2 := heap_setCell_same _ _ 1 _ _ s0 h1
    have h3 := heap_setCell_same _ _ 2 _ _ s0 h2
    rw [HT.out]
    exact bodyPost_ret (v := .tuple #[.agg #[s0, s0, s0], .int .i64 4]) (by simp [results, Tryz.results46, go_sem, Lib.cell_of_heap h3]) rfl ⟨rfl, ((hbw.setCell (by simp) _).setCell (by simp) _).setCell (by simp) _⟩
end Go.Proofs.Kl
/- rotation: turned, Apply. -/
namespace Go.Proofs.Kl
open Go.RowKit Go.Shelf
theorem Rg_mx {n s : Int} (h1 : n.natAbs ≤ 9000000000000000000) (h2 : s.natAbs ≤ 9000000000000000000) (h3 : 0 < s) : Rg 19 (Rat.divInt n s) := by
  rw [divInt_pos h3]
  exact Rg_mkRat ((nDigits_le (k := 19) (by decide)).2 (by omega)) ((nDigits_le (k := 19) (by decide)).2 (by omega))
theorem m_bounds {a b c d : Int} (h : qchk a b c d = 0) : (0 < nrm a b c d ∧ (nrm a b c d).natAbs ≤ 9000000000000000000) ∧ ((m00 a b c d).natAbs ≤ 9000000000000000000 ∧ (m01 a b c d).natAbs ≤ 9000000000000000000 ∧ (m02 a b c d).natAbs ≤ 9000000000000000000
     ∧ (m10 a b c d).natAbs ≤ 9000000000000000000 ∧ (m11 a b c d).natAbs ≤ 9000000000000000000 ∧ (m12 a b c d).natAbs ≤ 9000000000000000000
     ∧ (m20 a b c d).natAbs ≤ 9000000000000000000 ∧ (m21 a b c d).natAbs ≤ 9000000000000000000 ∧ (m22 a b c d).natAbs ≤ 9000000000000000000) := by
  obtain ⟨h1, h2, h3, h4, h0⟩ := qchk_zero h
  have hn := nrm_pos h0
  have haa := mul_bd6 h1 h1
  have hbb := mul_bd6 h2 h2
  have hcc := mul_bd6 h3 h3
  have hdd := mul_bd6 h4 h4
  have hbc := mul_bd6 h2 h3
  have had := mul_bd6 h1 h4
  have hbd := mul_bd6 h2 h4
  have hac := mul_bd6 h1 h3
  have hcd := mul_bd6 h3 h4
  have hab := mul_bd6 h1 h2
  refine ⟨⟨hn, ?_⟩, ?_, ?_, ?_, ?_, ?_, ?_, ?_, ?_, ?_⟩
  · unfold nrm; omega
  · unfold m00; omega
  · unfold m01; omega
  · unfold m02; omega
  · unfold m10; omega
  · unfold m11; omega
  · unfold m12; omega
  · unfold m20; omega
  · unfold m21; omega
  · unfold m22; omega
/-- a vector, rotated. -/
def tqx (a b c d : Int) (p q r : Rat) : Rat := Rat.divInt (m00 a b c d) (nrm a b c d) * p + Rat.divInt (m01 a b c d) (nrm a b c d) * q + Rat.divInt (m02 a b c d) (nrm a b c d) * r
def tqy (a b c d : Int) (p q r : Rat) : Rat := Rat.divInt (m10 a b c d) (nrm a b c d) * p + Rat.divInt (m11 a b c d) (nrm a b c d) * q + Rat.divInt (m12 a b c d) (nrm a b c d) * r
def tqz (a b c d : Int) (p q r : Rat) : Rat := Rat.divInt (m20 a b c d) (nrm a b c d) * p + Rat.divInt (m21 a b c d) (nrm a b c d) * q + Rat.divInt (m22 a b c d) (nrm a b c d) * r
set_option maxHeartbeats 2000000 in
set_option maxRecDepth 100000 in
theorem turned_rt (a b c d : Int) (p q r : Rat) (w : World) (hE : Env w) (h : qchk a b c d = 0) (hp : Rg 900000 p) (hq : Rg 900000 q) (hr : Rg 900000 r) :
    Calls Tryz.prog 45 #[qv a b c d, v3 p q r] w (Ret (v3 (tqx a b c d p q r) (tqy a b c d p q r) (tqz a b c d p q r)) w) := by
  have HR := Lib.hid (fun w' hw => rows_any a b c d w' hw h)
  obtain ⟨⟨hn0, hn1⟩, k0, k1, k2, k3, k4, k5, k6, k7, k8⟩ := m_bounds h
  have hp' := hp.mono (show 900000 ≤ 1000000 by decide)
  have hq' := hq.mono (show 900000 ≤ 1000000 by decide)
  have hr' := hr.mono (show 900000 ≤ 1000000 by decide)
  have HX := Lib.hid (fun w' hw => dot_rt _ _ _ p q r w' hw ((Rg_mx k0 hn1 hn0).mono (show 19 ≤ 1000000 by decide)) ((Rg_mx k1 hn1 hn0).mono (show 19 ≤ 1000000 by decide)) ((Rg_mx k2 hn1 hn0).mono (show 19 ≤ 1000000 by decide)) hp' hq' hr')
  have HY := Lib.hid (fun w' hw => dot_rt _ _ _ p q r w' hw ((Rg_mx k3 hn1 hn0).mono (show 19 ≤ 1000000 by decide)) ((Rg_mx k4 hn1 hn0).mono (show 19 ≤ 1000000 by decide)) ((Rg_mx k5 hn1 hn0).mono (show 19 ≤ 1000000 by decide)) hp' hq' hr')
  have HZ := Lib.hid (fun w' hw => dot_rt _ _ _ p q r w' hw ((Rg_mx k6 hn1 hn0).mono (show 19 ≤ 1000000 by decide)) ((Rg_mx k7 hn1 hn0).mono (show 19 ≤ 1000000 by decide)) ((Rg_mx k8 hn1 hn0).mono (show 19 ≤ 1000000 by decide)) hp' hq' hr')
  have HE := Lib.hid hE
  clear hn0 hn1 k0 k1 k2 k3 k4 k5 k6 k7 k8 hp hq hr hp' hq' hr' hE h
  obtain ⟨M0, hM0⟩ : ∃ X, X = tx (rt (Rat.divInt (m00 a b c d) (nrm a b c d))) := ⟨_, rfl⟩
  obtain ⟨M1, hM1⟩ : ∃ X, X = tx (rt (Rat.divInt (m01 a b c d) (nrm a b c d))) := ⟨_, rfl⟩
  obtain ⟨M2, hM2⟩ : ∃ X, X = tx (rt (Rat.divInt (m02 a b c d) (nrm a b c d))) := ⟨_, rfl⟩
  obtain ⟨M3, hM3⟩ : ∃ X, X = tx (rt (Rat.divInt (m10 a b c d) (nrm a b c d))) := ⟨_, rfl⟩
  obtain ⟨M4, hM4⟩ : ∃ X, X = tx (rt (Rat.divInt (m11 a b c d) (nrm a b c d))) := ⟨_, rfl⟩
  obtain ⟨M5, hM5⟩ : ∃ X, X = tx (rt (Rat.divInt (m12 a b c d) (nrm a b c d))) := ⟨_, rfl⟩
  obtain ⟨M6, hM6⟩ : ∃ X, X = tx (rt (Rat.divInt (m20 a b c d) (nrm a b c d))) := ⟨_, rfl⟩
  obtain ⟨M7, hM7⟩ : ∃ X, X = tx (rt (Rat.divInt (m21 a b c d) (nrm a b c d))) := ⟨_, rfl⟩
  obtain ⟨M8, hM8⟩ : ∃ X, X = tx (rt (Rat.divInt (m22 a b c d) (nrm a b c d))) := ⟨_, rfl⟩
  obtain ⟨P, hP⟩ : ∃ X, X = tx (rt p) := ⟨_, rfl⟩
  obtain ⟨Q, hQ⟩ : ∃ X, X = tx (rt q) := ⟨_, rfl⟩
  obtain ⟨R, hR⟩ : ∃ X, X = tx (rt r) := ⟨_, rfl⟩
  obtain ⟨D0, hD0⟩ : ∃ X, X = tx (rt (tqx a b c d p q r)) := ⟨_, rfl⟩
  obtain ⟨D1, hD1⟩ : ∃ X, X = tx (rt (tqy a b c d p q r)) := ⟨_, rfl⟩
  obtain ⟨D2, hD2⟩ : ∃ X, X = tx (rt (tqz a b c d p q r)) := ⟨_, rfl⟩
  have HR' : Hid (∀ w', Env w' → Calls Tryz.prog 48 #[qv a b c d] w' (Ret (Value.agg #[Value.string M0, Value.string M1, Value.string M2, Value.string M3, Value.string M4, Value.string M5, Value.string M6, Value.string M7, Value.string M8]) w')) := Lib.hid (by rw [hM0, hM1, hM2, hM3, hM4, hM5, hM6, hM7, hM8]; exact HR.out)
  have HX' : Hid (∀ w', Env w' → Calls Tryz.prog 94 #[Value.agg #[Value.string M0, Value.string M1, Value.string M2], Value.agg #[Value.string P, Value.string Q, Value.string R]] w' (Ret (Value.string D0) w')) := Lib.hid (by rw [hM0, hM1, hM2, hP, hQ, hR, hD0]; exact HX.out)
  have HY' : Hid (∀ w', Env w' → Calls Tryz.prog 94 #[Value.agg #[Value.string M3, Value.string M4, Value.string M5], Value.agg #[Value.string P, Value.string Q, Value.string R]] w' (Ret (Value.string D1) w')) := Lib.hid (by rw [hM3, hM4, hM5, hP, hQ, hR, hD1]; exact HY.out)
  have HZ' : Hid (∀ w', Env w' → Calls Tryz.prog 94 #[Value.agg #[Value.string M6, Value.string M7, Value.string M8], Value.agg #[Value.string P, Value.string Q, Value.string R]] w' (Ret (Value.string D2) w')) := Lib.hid (by rw [hM6, hM7, hM8, hP, hQ, hR, hD2]; exact HZ.out)
  show Calls Tryz.prog 45 #[qv a b c d, .agg #[.string (tx (rt p)), .string (tx (rt q)), .string (tx (rt r))]] w (Ret (.agg #[.string (tx (rt (tqx a b c d p q r))), .string (tx (rt (tqy a b c d p q r))), .string (tx (rt (tqz a b c d p q r)))]) w)
  rw [← hP, ← hQ, ← hR, ← hD0, ← hD1, ← hD2]
  clear hP hQ hR hD0 hD1 hD2 HR HX HY HZ hM0 hM1 hM2 hM3 hM4 hM5 hM6 hM7 hM8
  go_enter Tryz.func45, Tryz.ntmps45
  have hb0 := (((Below.refl w.heap.size w).alloc (Nat.le_refl _) (.cells #[.int .i64 a, .int .i64 b, .int .i64 c, .int .i64 d] 22)).alloc (by simp) (.cells #[Value.string P, Value.string Q, Value.string R] 41)).alloc (by simp; omega) (.cells #[s0, s0, s0] 41)
  go_wp2_with fail
  refine (HR'.out _ (HE.out.below hb0)).mono ?_
  rintro e w1 ⟨rfl, hb1⟩
  have hbw := below_trans hb0 hb1
  have k1 : w1.heap[w.heap.size + 1]? = some (.cells #[Value.string P, Value.string Q, Value.string R] 41 (0, 0)) := (hb1.block _ (by simp)).trans (heap_alloc_old _ (heap_new3 _ _ _ (by simp)))
  have k2 : w1.heap[w.heap.size + 1 + 1]? = some (.cells #[s0, s0, s0] 41 (0, 0)) := (hb1.block _ (by simp)).trans (heap_new3 _ _ _ (by simp))
  go_upto_region 2 with fail
  have hbW := hbw.alloc hbw.size (.cells #[Value.string M0, Value.string M1, Value.string M2, Value.string M3, Value.string M4, Value.string M5, Value.string M6, Value.string M7, Value.string M8] 43)
  have k0 := World.alloc_heap_new w1 (.cells #[Value.string M0, Value.string M1, Value.string M2, Value.string M3, Value.string M4, Value.string M5, Value.string M6, Value.string M7, Value.string M8] 43)
  have k1 := heap_alloc_old (.cells #[Value.string M0, Value.string M1, Value.string M2, Value.string M3, Value.string M4, Value.string M5, Value.string M6, Value.string M7, Value.string M8] 43) k1
  have k2 := heap_alloc_old (.cells #[Value.string M0, Value.string M1, Value.string M2, Value.string M3, Value.string M4, Value.string M5, Value.string M6, Value.string M7, Value.string M8] 43) k2
  have hw1 : w.heap.size + 1 + 1 < w1.heap.size := Nat.lt_of_lt_of_le (by simp) hb1.size
  generalize hW : w1.alloc (.cells #[Value.string M0, Value.string M1, Value.string M2, Value.string M3, Value.string M4, Value.string M5, Value.string M6, Value.string M7, Value.string M8] 43) = W at *
  clear hW
  have c0 : K12 w1.heap.size (w.heap.size + 1) M0 M1 M2 M3 M4 M5 M6 M7 M8 P Q R W := ⟨(Lib.cell_of_heap k0 0).trans rfl, (Lib.cell_of_heap k0 1).trans rfl, (Lib.cell_of_heap k0 2).trans rfl, (Lib.cell_of_heap k0 3).trans rfl, (Lib.cell_of_heap k0 4).trans rfl, (Lib.cell_of_heap k0 5).trans rfl, (Lib.cell_of_heap k0 6).trans rfl, (Lib.cell_of_heap k0 7).trans rfl, (Lib.cell_of_heap k0 8).trans rfl, (Lib.cell_of_heap k1 0).trans rfl, (Lib.cell_of_heap k1 1).trans rfl, (Lib.cell_of_heap k1 2).trans rfl⟩
  obtain ⟨x0, x1, x2, x3, x4, x5, x6, x7, x8, y0, y1, y2⟩ := id c0
  have HK := Lib.hid k2
  have n1 : w.heap.size + 1 + 1 ≠ w1.heap.size := by omega
  have n2 : w.heap.size + 1 + 1 ≠ w.heap.size + 1 := by omega
  have HC := Lib.hid c0
  have HN1 := Lib.hid n1
  have HN2 := Lib.hid n2
  clear c0 k0 k1 k2 n1 n2 hw1
  go_region_held3 (fun w' => w'.cell? ⟨w1.heap.size, 0, none⟩ = some (Value.string M0) ∧ w'.cell? ⟨w1.heap.size, 1, none⟩ = some (Value.string M1) ∧ w'.cell? ⟨w1.heap.size, 2, none⟩ = some (Value.string M2) ∧ w'.cell? ⟨w1.heap.size, 3, none⟩ = some (Value.string M3) ∧ w'.cell? ⟨w1.heap.size, 4, none⟩ = some (Value.string M4) ∧ w'.cell? ⟨w1.heap.size, 5, none⟩ = some (Value.string M5) ∧ w'.cell? ⟨w1.heap.size, 6, none⟩ = some (Value.string M6) ∧ w'.cell? ⟨w1.heap.size, 7, none⟩ = some (Value.string M7) ∧ w'.cell? ⟨w1.heap.size, 8, none⟩ = some (Value.string M8) ∧ w'.cell? ⟨w.heap.size + 1, 0, none⟩ = some (Value.string P) ∧ w'.cell? ⟨w.heap.size + 1, 1, none⟩ = some (Value.string Q) ∧ w'.cell? ⟨w.heap.size + 1, 2, none⟩ = some (Value.string R))
    (first
      | exact K12_set HN1.out HN2.out 2 _ (K12_set HN1.out HN2.out 1 _ (K12_set HN1.out HN2.out 0 _ (K12_below hb8 (K12_below hb7 (K12_below hb6 HC.out)))))
      | exact K12_below hb8 (K12_below hb7 (K12_below hb6 HC.out))
      | exact K12_below hb7 (K12_below hb6 HC.out)
      | exact K12_below hb6 HC.out
      | exact HC.out)
    (first
      | (go_at_call 94; refine (HZ'.out w7 (HE.out.below (below_trans (below_trans hbW.drew hb6) hb7))).mono ?_; rintro e w8 ⟨rfl, hb8⟩; have k8 := (hb8.block _ (Nat.lt_of_lt_of_le (heap_lt HK.out) (below_trans hb6 hb7).size)).trans (((below_trans hb6 hb7).block _ (heap_lt HK.out)).trans HK.out); have HK8 := Lib.hid k8; have fz : ∀ i, w8.frozen? ⟨w.heap.size + 1 + 1, i, none⟩ = false := fun i => Lib.frozen_of_heap k8 i; have d0 := (Lib.cell_of_heap k8 0).trans rfl; have d1 := (Lib.cell_of_heap k8 1).trans rfl; have d2 := (Lib.cell_of_heap k8 2).trans rfl; clear k8)
      | (go_at_call 94; refine (HY'.out w6 (HE.out.below (below_trans hbW.drew hb6))).mono ?_; rintro e w7 ⟨rfl, hb7⟩)
      | (go_at_call 94; refine (HX'.out _ (HE.out.below hbW.drew)).mono ?_; rintro e w6 ⟨rfl, hb6⟩))
  go_wp2
  have h1 := heap_setCell_same _ _ 0 _ _ (Value.string D0) HK8.out
  have h2 := heap_setCell_same _ _ 1 _ _ (Value.string D1) h1
  have h3 := heap_setCell_same _ _ 2 _ _ (Value.string D2) h2
  have hbf := below_trans (below_trans (below_trans hbW.drew hb6) hb7) hb8
  exact bodyPost_ret (v := .agg #[Value.string D0, Value.string D1, Value.string D2]) (by simp [results, Tryz.results45, go_sem, Lib.cell_of_heap h3]) rfl ⟨rfl, ((hbf.setCell (by simp; omega) _).setCell (by simp; omega) _).setCell (by simp; omega) _⟩
end Go.Proofs.Kl
/- rotation: Apply. -/
namespace Go.Proofs.Kl
open Go.RowKit Go.Shelf
theorem Rok_rt {q : Rat} (h : Rg 200 q) : Rok (rt q) := ⟨q, rfl, h⟩
theorem numsR3_ok {x y z : List UInt8} (hx : Rok x) (hy : Rok y) (hz : Rok z) : numsR [x, y, z] = 0 := by
  rw [numsR, if_pos]
  intro k hk
  match k, hk with
  | 0, _ => exact hx
  | 1, _ => exact hy
  | 2, _ => exact hz
theorem numsR_or (ts : List (List UInt8)) : numsR ts = 0 ∨ numsR ts = 2 := by
  unfold numsR; split
  · exact Or.inl rfl
  · exact Or.inr rfl
/-- a vector, or its limit. -/
noncomputable def resV (x y z : Rat) : Value := if numsR [rt x, rt y, rt z] = 0 then .tuple #[v3 x y z, .int .i64 0] else .tuple #[.agg #[s0, s0, s0], .int .i64 4]
theorem Rg_len {k : Nat} {q : Rat} (h : Rg k q) (hk : k ≤ 1000000000) : (rt q).length ≤ 4000000000 := by have := h.len; omega
set_option maxHeartbeats 1000000 in
set_option maxRecDepth 100000 in
theorem Apply_rt (a b c d : Int) (p q r : Rat) (w : World) (hE : Env w) (h : qchk a b c d = 0) (hp : Rg 200 p) (hq : Rg 200 q) (hr : Rg 200 r) :
    Calls Tryz.prog 19 #[qv a b c d, v3 p q r] w (Ret (resV (tqx a b c d p q r) (tqy a b c d p q r) (tqz a b c d p q r)) w) := by
  have hp' := hp.mono (show 200 ≤ 900000 by decide)
  have hq' := hq.mono (show 200 ≤ 900000 by decide)
  have hr' := hr.mono (show 200 ≤ 900000 by decide)
  have HB := Lib.hid (fun w' hw => both_any a b c d (rt p) (rt q) (rt r) w' hw (Rg_len hp (by decide)) (Rg_len hq (by decide)) (Rg_len hr (by decide)))
  rw [if_pos h, numsR3_ok (Rok_rt hp) (Rok_rt hq) (Rok_rt hr)] at HB
  have HT := Lib.hid (fun w' hw => turned_rt a b c d p q r w' hw h hp' hq' hr')
  obtain ⟨⟨hn0, hn1⟩, k0, k1, k2, k3, k4, k5, k6, k7, k8⟩ := m_bounds h
  have gx : (rt (tqx a b c d p q r)).length ≤ 4000000000 := Rg_len ((((Rg_mx k0 hn1 hn0).mul hp').add ((Rg_mx k1 hn1 hn0).mul hq')).add ((Rg_mx k2 hn1 hn0).mul hr')) (by decide)
  have gy : (rt (tqy a b c d p q r)).length ≤ 4000000000 := Rg_len ((((Rg_mx k3 hn1 hn0).mul hp').add ((Rg_mx k4 hn1 hn0).mul hq')).add ((Rg_mx k5 hn1 hn0).mul hr')) (by decide)
  have gz : (rt (tqz a b c d p q r)).length ≤ 4000000000 := Rg_len ((((Rg_mx k6 hn1 hn0).mul hp').add ((Rg_mx k7 hn1 hn0).mul hq')).add ((Rg_mx k8 hn1 hn0).mul hr')) (by decide)
  have HL := Lib.hid (fun w' hw => result_ok (rt (tqx a b c d p q r)) (rt (tqy a b c d p q r)) (rt (tqz a b c d p q r)) w' hw gx gy gz)
  have HE := Lib.hid hE
  clear hn0 hn1 k0 k1 k2 k3 k4 k5 k6 k7 k8 gx gy gz hp hq hr hp' hq' hr' hE h
  obtain ⟨V, hV⟩ : ∃ V, V = resV (tqx a b c d p q r) (tqy a b c d p q r) (tqz a b c d p q r) := ⟨_, rfl⟩
  rw [← hV]
  have HL' : Hid (∀ w', Env w' → Calls Tryz.prog 46 #[v3 (tqx a b c d p q r) (tqy a b c d p q r) (tqz a b c d p q r)] w' (Ret V w')) := Lib.hid (by rw [hV]; exact HL.out)
  have HV : Hid (∃ (X0 X1 X2 : ByteArray) (k : Int), V = .tuple #[.agg #[.string X0, .string X1, .string X2], .int .i64 k]) := Lib.hid (by
    rw [hV]; unfold resV; split
    · exact ⟨_, _, _, _, rfl⟩
    · exact ⟨_, _, _, _, rfl⟩)
  clear hV HL
  have hb0 := (((Below.refl w.heap.size w).alloc (Nat.le_refl _) (.cells #[.int .i64 a, .int .i64 b, .int .i64 c, .int .i64 d] 22)).alloc (by simp) (.cells #[sv p, sv q, sv r] 41)).alloc (by simp; omega) (.cells #[s0, s0, s0] 41)
  go_enter Tryz.func19, Tryz.ntmps19
  go_wp2_with fail
  refine (HB.out _ (HE.out.below hb0)).mono ?_
  rintro e w1 ⟨rfl, hb1⟩
  have hbw := below_trans hb0 hb1
  have k0 : w1.heap[w.heap.size]? = some (.cells #[.int .i64 a, .int .i64 b, .int .i64 c, .int .i64 d] 22 (0, 0)) := (hb1.block _ (by simp; omega)).trans (heap_alloc_old _ (heap_alloc_old _ (World.alloc_heap_new w _)))
  have k1 : w1.heap[w.heap.size + 1]? = some (.cells #[sv p, sv q, sv r] 41 (0, 0)) := (hb1.block _ (by simp)).trans (heap_alloc_old _ (heap_new3 _ _ _ (by simp)))
  have k2 : w1.heap[w.heap.size + 1 + 1]? = some (.cells #[s0, s0, s0] 41 (0, 0)) := (hb1.block _ (by simp)).trans (heap_new3 _ _ _ (by simp))
  have a0 := (Lib.cell_of_heap k0 0).trans rfl
  have a1 := (Lib.cell_of_heap k0 1).trans rfl
  have a2 := (Lib.cell_of_heap k0 2).trans rfl
  have a3 := (Lib.cell_of_heap k0 3).trans rfl
  have c0 := (Lib.cell_of_heap k1 0).trans rfl
  have c1 := (Lib.cell_of_heap k1 1).trans rfl
  have c2 := (Lib.cell_of_heap k1 2).trans rfl
  have HK := Lib.hid k2
  clear k0 k1 k2
  go_wp2_with fail
  refine (HT.out _ (HE.out.below hbw)).mono ?_
  rintro e w2 ⟨rfl, hb2⟩
  have hbw2 := below_trans hbw hb2
  go_wp2_with fail
  refine (HL'.out _ (HE.out.below hbw2)).mono ?_
  rintro e w3 ⟨rfl, hb3⟩
  obtain ⟨X0, X1, X2, k, rfl⟩ := HV.out
  have k3 : w3.heap[w.heap.size + 1 + 1]? = some (.cells #[s0, s0, s0] 41 (0, 0)) := (hb3.block _ (Nat.lt_of_lt_of_le (heap_lt HK.out) hb2.size)).trans ((hb2.block _ (heap_lt HK.out)).trans HK.out)
  have HK3 := Lib.hid k3
  have fz : ∀ i, w3.frozen? ⟨w.heap.size + 1 + 1, i, none⟩ = false := fun i => Lib.frozen_of_heap k3 i
  have d0 := (Lib.cell_of_heap k3 0).trans rfl
  have d1 := (Lib.cell_of_heap k3 1).trans rfl
  have d2 := (Lib.cell_of_heap k3 2).trans rfl
  clear k3
  go_wp2_with fail
  have h1 := heap_setCell_same _ _ 0 _ _ (Value.string X0) HK3.out
  have h2 := heap_setCell_same _ _ 1 _ _ (Value.string X1) h1
  have h3 := heap_setCell_same _ _ 2 _ _ (Value.string X2) h2
  have hbf := below_trans hbw2 hb3
  exact bodyPost_ret (v := .tuple #[.agg #[.string X0, .string X1, .string X2], .int .i64 k]) (by simp [results, Tryz.results19, go_sem, Lib.cell_of_heap h3]) rfl ⟨rfl, ((hbf.setCell (by simp; omega) _).setCell (by simp; omega) _).setCell (by simp; omega) _⟩
end Go.Proofs.Kl
/- rotation: Cosine; the reference's Of. -/
namespace Go.Proofs.Kl
open Go.RowKit Go.Shelf
/-- the cosine of a rotation's angle. -/
def qcos (a b c d : Int) : Rat := Rat.divInt (a * a - (b * b + c * c + d * d)) (a * a + (b * b + c * c + d * d))
set_option maxHeartbeats 1000000 in
set_option maxRecDepth 100000 in
theorem Cosine_any (a b c d : Int) (w : World) (hE : Env w) :
    Calls Tryz.prog 26 #[qv a b c d] w (Ret (if qchk a b c d = 0 then .tuple #[sv (qcos a b c d), .int .i64 0] else .tuple #[s0, .int .i64 (qchk a b c d)]) w) := by
  obtain ⟨R, hR⟩ : ∃ R, R = qchk a b c d := ⟨_, rfl⟩
  have HQ := Lib.hid (fun w' => QCheck_any a b c d w')
  have hb0 := ((Below.refl w.heap.size w).alloc (Nat.le_refl _) (.cells #[.int .i64 a, .int .i64 b, .int .i64 c, .int .i64 d] 22))
  have HE := Lib.hid hE
  clear hE
  by_cases h : qchk a b c d = 0
  · rw [if_pos h]
    rw [h] at HQ
    clear hR
    obtain ⟨h1, h2, h3, h4, h0⟩ := qchk_zero h
    have hn := nrm_pos h0
    have s1 := sq_bound h1
    have s2 := sq_bound h2
    have s3 := sq_bound h3
    have s4 := sq_bound h4
    have HSQ := Lib.hid (fun w' => squares_any a b c d w' h1 h2 h3 h4)
    unfold qcos
    obtain ⟨W, hW⟩ : ∃ W, W = a * a := ⟨_, rfl⟩
    obtain ⟨S, hS⟩ : ∃ S, S = b * b + c * c + d * d := ⟨_, rfl⟩
    unfold nrm at hn
    have b1 : 0 ≤ W ∧ W ≤ 1000000000000 := by rw [hW]; exact s1
    have b2 : 0 ≤ S ∧ S ≤ 3000000000000 := by omega
    have b3 : 0 < W + S := by omega
    rw [← hW, ← hS] at HSQ ⊢
    have HO := Lib.hid (fun w' hw => ROf_any (W - S) (W + S) w' hw (by omega) (by omega) (by omega))
    clear h h1 h2 h3 h4 h0 hn s1 s2 s3 s4 hW hS
    go_enter Tryz.func26, Tryz.ntmps26
    go_wp2_with fail
    refine (HQ.out _).mono ?_
    rintro e w1 ⟨rfl, hb1⟩
    have hbw := below_trans hb0 hb1
    have k0 : w1.heap[w.heap.size]? = some (.cells #[.int .i64 a, .int .i64 b, .int .i64 c, .int .i64 d] 22 (0, 0)) := (hb1.block _ (by simp)).trans (World.alloc_heap_new w _)
    have a0 := (Lib.cell_of_heap k0 0).trans rfl
    have a1 := (Lib.cell_of_heap k0 1).trans rfl
    have a2 := (Lib.cell_of_heap k0 2).trans rfl
    have a3 := (Lib.cell_of_heap k0 3).trans rfl
    clear k0
    go_wp2_with fail
    refine (HSQ.out _).mono ?_
    rintro e w2 ⟨rfl, hb2⟩
    have hbw2 := below_trans hbw hb2
    go_wp2_with fail
    refine (HO.out _ (HE.out.below hbw2)).mono ?_
    rintro e w3 ⟨rfl, hb3⟩
    go_wp2
    go_ret2
    exact ⟨rfl, below_trans hbw2 hb3⟩
  · rw [if_neg h]
    rw [← hR] at h HQ ⊢
    clear hR
    go_enter Tryz.func26, Tryz.ntmps26
    go_wp2_with fail
    refine (HQ.out _).mono ?_
    rintro e w1 ⟨rfl, hb1⟩
    have hbw := below_trans hb0 hb1
    go_wp2_with fail
    go_ret2
    exact ⟨rfl, hbw⟩
theorem divInt_one (n : Int) : Rat.divInt n 1 = (n : Rat) := by
  rw [divInt_pos (by decide)]; exact Rat.mkRat_one n
set_option maxHeartbeats 1000000 in
set_option maxRecDepth 100000 in
theorem R5Of_short (x y z : Int) (w : World) (hE : Env w) (hx : (Lib.itoa x).length ≤ 9) (hy : (Lib.itoa y).length ≤ 9) (hz : (Lib.itoa z).length ≤ 9) :
    Calls Tryz.prog 20 #[.int .i64 x, .int .i64 y, .int .i64 z] w (Ret (v3 x y z) w) := by
  have h1 : (Lib.itoa 1).length ≤ 9 := by rw [itoa_one]; decide
  have HX := Lib.hid (fun w' hw => R2Of_short x 1 w' hw (by decide) hx h1)
  have HY := Lib.hid (fun w' hw => R2Of_short y 1 w' hw (by decide) hy h1)
  have HZ := Lib.hid (fun w' hw => R2Of_short z 1 w' hw (by decide) hz h1)
  rw [divInt_one] at HX HY HZ
  have HE := Lib.hid hE
  clear hE hx hy hz h1
  have hb0 := (Below.refl w.heap.size w).alloc (Nat.le_refl _) (.cells #[s0, s0, s0] 41)
  go_enter Tryz.func20, Tryz.ntmps20
  go_wp2_with fail
  refine (HX.out _ (HE.out.below hb0)).mono ?_
  rintro e w1 ⟨rfl, hb1⟩
  have hbw1 := below_trans hb0 hb1
  go_wp2_with fail
  refine (HY.out _ (HE.out.below hbw1)).mono ?_
  rintro e w2 ⟨rfl, hb2⟩
  have hbw2 := below_trans hbw1 hb2
  go_wp2_with fail
  refine (HZ.out _ (HE.out.below hbw2)).mono ?_
  rintro e w3 ⟨rfl, hb3⟩
  have hbw3 := below_trans hbw2 hb3
  have k1 : w1.heap[w.heap.size]? = some (.cells #[s0, s0, s0] 41 (0, 0)) := (hb1.block _ (by simp)).trans (World.alloc_heap_new w _)
  have k3 : w3.heap[w.heap.size]? = some (.cells #[s0, s0, s0] 41 (0, 0)) := ((below_trans hb2 hb3).block _ (heap_lt k1)).trans k1
  have HK3 := Lib.hid k3
  have fz : ∀ i, w3.frozen? ⟨w.heap.size, i, none⟩ = false := fun i => Lib.frozen_of_heap k3 i
  have d0 := (Lib.cell_of_heap k3 0).trans rfl
  have d1 := (Lib.cell_of_heap k3 1).trans rfl
  have d2 := (Lib.cell_of_heap k3 2).trans rfl
  clear k1 k3
  go_wp2_with fail
  have h1 := heap_setCell_same _ _ 0 _ _ (sv x) HK3.out
  have h2 := heap_setCell_same _ _ 1 _ _ (sv y) h1
  have h3 := heap_setCell_same _ _ 2 _ _ (sv z) h2
  exact bodyPost_ret (v := v3 x y z) (by simp [results, Tryz.results20, go_sem, Lib.cell_of_heap h3]) rfl ⟨rfl, ((hbw3.setCell (Nat.le_refl _) _).setCell (Nat.le_refl _) _).setCell (Nat.le_refl _) _⟩
end Go.Proofs.Kl
/- integer.Root. -/
namespace Go.Proofs.Kl
open Go.RowKit Go.Shelf
theorem root_uniq {m x r : Nat} (h1 : r * r ≤ m) (h2 : m < (r + 1) * (r + 1)) (h3 : x * x ≤ m) (h4 : m < (x + 1) * (x + 1)) : x = r := by
  rcases Nat.lt_trichotomy x r with h | h | h
  · have := Nat.mul_le_mul (show x + 1 ≤ r from h) (show x + 1 ≤ r from h); omega
  · exact h
  · have := Nat.mul_le_mul (show r + 1 ≤ x from h) (show r + 1 ≤ x from h); omega
theorem newton_up {m x : Nat} (hx : 0 < x) (_h : m < (x + 1) * (x + 1)) : m < ((x + m / x) / 2 + 1) * ((x + m / x) / 2 + 1) := by
  have hq : m < x * (m / x + 1) := by
    have := Nat.mod_add_div m x
    have := Nat.mod_lt m hx
    rw [Nat.mul_add, Nat.mul_one]; omega
  generalize m / x = q at *
  have hy : x + q + 1 ≤ 2 * ((x + q) / 2 + 1) := by omega
  generalize (x + q) / 2 + 1 = y at *
  have h1 := Nat.mul_le_mul hy hy
  have h2 : 4 * (x * (q + 1)) ≤ (x + q + 1) * (x + q + 1) := by
    have e1 : (x : Int) + q + 1 = x + (q + 1) := by omega
    have h3 : (0 : Int) ≤ ((x : Int) - (q + 1)) * ((x : Int) - (q + 1)) := by
      rw [← Int.natAbs_mul_self' ((x : Int) - (q + 1))]; exact Int.mul_nonneg (by omega) (by omega)
    have h4 : (4 : Int) * ((x : Int) * (q + 1)) ≤ (x + q + 1) * (x + q + 1) := by grind
    exact_mod_cast h4
  have e : 2 * y * (2 * y) = 4 * (y * y) := by grind
  omega
theorem newton_end {m x : Nat} (_hx : 0 < x) (h : x ≤ (x + m / x) / 2) : x * x ≤ m := by
  have h1 : x ≤ m / x := by omega
  exact Nat.le_trans (Nat.mul_le_mul_left x h1) (Nat.mul_div_le m x)
theorem newton_pos {m x : Nat} (hx : 0 < x) (hm : 0 < m) (h : m < (x + 1) * (x + 1)) : 0 < (x + m / x) / 2 := by
  by_cases h2 : 2 ≤ x
  · generalize m / x = q; omega
  · have : x = 1 := by omega
    subst this
    rw [Nat.div_one]; omega
theorem pcs_pow (n : Nat) : pcs 1000000000 (1000000000 ^ n) = List.replicate n 0 ++ [1] := by
  induction n with
  | zero => rw [Nat.pow_zero, pcs_pos (by decide) (by decide), Nat.mod_eq_of_lt (by decide), Nat.div_eq_of_lt (by decide), pcs_zero]; rfl
  | succ n ih => rw [pcs_pos (by decide) (Nat.pos_iff_ne_zero.1 (Nat.pow_pos (by decide))), Nat.pow_succ, Nat.mul_mod_left, Nat.mul_div_cancel _ (by decide), ih]; rfl
/-- append(own, x). -/
theorem app_snoc {P : Program} {ops : Array Oper} {rest : List Oper} {o : Oper} {a : Act} {Q : Exit → Act → World → Prop} (W w0 : World) (hg : o.guard = none) (s x : Operand) (t e : TypeId) (kd : IntKind)
    (hop : o.op = Op.call { callee := Callee.builtin Builtin.append, args := #[s, x], argTypes := #[t, t] }) (h1 : P.underlying t = some (.slice e)) (hinfo : (P.info? e).map (fun i => (i.zero, i.size, i.bytes)) = some (some (.int kd 0), 1, 8))
    (d : Nat) (D : Int) (hD : D = (d : Int)) (g cap n : Nat) (zs : List Nat) (hn : n = zs.length) (hs : a.eval s = .slice (some ⟨g, 0, none⟩) n cap) (gx : Nat) (hgx : gx = W.heap.size) (hx : a.eval x = .slice (some ⟨gx, 0, none⟩) 1 1)
    (hown : W.ownsRow w0.heap.size e 1 (.slice (some ⟨g, 0, none⟩) n cap) n (nu kd zs)) (hgb : w0.heap.size ≤ g) (hw0 : Below w0.heap.size w0 W) (hl : n ≤ 1000000000)
    (h : ∀ (A' : Option Addr) (n' c' : Nat) (w' : World), n' = zs.length + 1 → Sl kd w' (.slice A' n' c') (zs ++ [d]) → Below w0.heap.size w0 w' → wpList P ops Q rest (a.put o.dst (.slice A' n' c')) w') :
    wpList P ops Q (o :: rest) a (W.alloc (.cells #[.int kd D] e)) := by
  subst hD hn hgx
  have hbl : Below w0.heap.size w0 (W.alloc (.cells #[.int kd (d : Int)] e)) := hw0.alloc hw0.size _
  obtain ⟨i0, hi, hz0, hz1, hz2⟩ := info_parts hinfo
  refine wpList_append_own (W.alloc (.cells #[.int kd (d : Int)] e)) hg s x t hop w0.heap.size e i0 (.int kd 0) 1 8 h1 hi hz0 hz1 hz2 rfl (by decide) _ zs.length _ hs (hown.alloc _) ⟨W.heap.size, 0, none⟩ 1 1 (nu kd [d]) hx (by simp [nu]) ?_ (by intro u hu; simp [nu] at hu; subst hu; rfl) (by unfold maxLen; omega) (by omega) (Nat.le_trans hw0.size (by simp)) ?_
  · intro j u hj
    have hj0 : j = 0 := by have := (List.getElem?_eq_some_iff.1 hj).1; simp [nu] at this; exact this
    subst hj0
    simp [nu] at hj
    subst hj
    rw [addr_add]
    exact (Lib.cell_of_heap (World.alloc_heap_new W _) 0).trans rfl
  · intro v' w' ho hgr _
    have hsl : Sl kd w' v' (zs ++ [d]) := by
      have ho' : w'.ownsRow w0.heap.size e 1 v' (zs ++ [d]).length (nu kd (zs ++ [d])) := by rw [nu_append]; simpa using ho
      exact Sl_own ho' (by simp; omega)
    obtain ⟨A', c', e2, -⟩ := id hsl
    subst e2
    exact h A' _ c' w' (by simp) hsl (hbl.grown hgr (Nat.le_trans hw0.size (by simp)) (fun k hk => by cases hk; exact hgb))
theorem Good_two : Good 1000000000 [2] := by
  have := Good_pcs (B := 1000000000) (by decide) 2
  rwa [← ptrim_single (by decide) (by decide), ptrim_of_Tr _ (by simp [Tr])] at this
theorem pv_two : pv 1000000000 [2] = 2 := by decide
theorem root_start {m N : Nat} (hN : N = ((pcs 1000000000 m).length + 1) / 2) : m < (1000000000 ^ N + 1) * (1000000000 ^ N + 1) := by
  have h1 := (pcs_length_le (B := 1000000000) (n := m) (k := (pcs 1000000000 m).length) (by decide)).1 (Nat.le_refl _)
  have h2 : 1000000000 ^ (pcs 1000000000 m).length ≤ 1000000000 ^ (N + N) := Nat.pow_le_pow_right (by decide) (by omega)
  rw [Nat.pow_add] at h2
  have h3 := Nat.mul_le_mul (show 1000000000 ^ N ≤ 1000000000 ^ N + 1 by omega) (show 1000000000 ^ N ≤ 1000000000 ^ N + 1 by omega)
  exact Nat.lt_of_lt_of_le h1 (Nat.le_trans h2 h3)
theorem pcs_len_pow {x N : Nat} (h : x ≤ 1000000000 ^ N) : (pcs 1000000000 x).length ≤ N + 1 :=
  (pcs_length_le (by decide)).2 (Nat.lt_of_le_of_lt h (Nat.pow_lt_pow_right (by decide) (show N < N + 1 by omega)))
theorem pcs_mono {x y : Nat} (h : x ≤ y) : (pcs 1000000000 x).length ≤ (pcs 1000000000 y).length :=
  (pcs_length_le (by decide)).2 (Nat.lt_of_le_of_lt h ((pcs_length_le (by decide)).1 (Nat.le_refl _)))
theorem pcs_add_len {x y k : Nat} (hx : (pcs 1000000000 x).length ≤ k) (hy : (pcs 1000000000 y).length ≤ k) : (pcs 1000000000 (x + y)).length ≤ k + 1 := by
  rw [pcs_length_le (by decide)] at *
  rw [Nat.pow_succ]; omega
attribute [local go_sem] Instr.field part asAgg
set_option maxHeartbeats 2000000 in
set_option maxRecDepth 100000 in
theorem Root_itoa (m r : Nat) (w : World) (hE : Env w) (hl : Lib.nDigits m ≤ 400000000) (hr1 : r * r ≤ m) (hr2 : m < (r + 1) * (r + 1)) :
    Calls Tryz.prog 148 #[.string (tx (Lib.itoa (m : Int)))] w (Ret (.tuple #[.string (tx (Lib.itoa (r : Int))), .int .i64 0]) w) := by
  have hsg : ¬ sgn (m : Int) < 0 := by unfold sgn; split <;> (try split) <;> omega
  have hna : ((m : Int)).natAbs = m := by omega
  have HE := Lib.hid hE
  have HL := Lib.hid hl
  have HR := Lib.hid (And.intro hr1 hr2)
  have hln := pcs_len (k := 50000000) (n := m) (by decide) (by omega)
  clear hE hl
  by_cases hm : m = 0
  · subst hm
    have hr0 : r = 0 := by
      rcases Nat.eq_zero_or_pos r with h | h
      · exact h
      · have := Nat.mul_le_mul h h; omega
    subst hr0
    have hl0 : (pcs 1000000000 0).length = 0 := by rw [pcs_zero]; rfl
    rw [show ((0 : Nat) : Int) = 0 from rfl, itoa_zero] at *
    have HOP := Lib.hid (open_itoa 0 w (by rw [show Int.natAbs 0 = 0 from rfl, Lib.nDigits_small (by decide)]; decide))
    rw [itoa_zero] at HOP
    have HSG := Lib.hid (Sign_itoa 0 w)
    rw [itoa_zero] at HSG
    clear hr1 hr2 hna HR
    go_enter Tryz.func148, Tryz.ntmps148
    go_wp2_with fail
    refine HSG.out.mono ?_
    rintro e w' ⟨rfl, rfl⟩
    go_wp2_with fail
    refine HOP.out.mono ?_
    rintro e w2 ⟨va, rfl, hna2, hb2⟩
    obtain ⟨ma, rfl, hsa⟩ := hna2
    obtain ⟨A1, c1, rfl, -⟩ := id hsa
    have hl1 : (pcs 1000000000 (Int.natAbs 0)).length = 0 := hl0
    clear hsa
    go_wp2_with fail
    go_ret2
    exact ⟨rfl, hb2⟩
  have hl0 : ¬ (pcs 1000000000 m).length = 0 := fun h => hm ((pcs_nil (by decide)).1 h)
  have HM := Lib.hid (show 0 < m by omega)
  clear hm hr1 hr2
  obtain ⟨N, hN⟩ : ∃ N : Nat, N = ((pcs 1000000000 m).length + 1) / 2 := ⟨_, rfl⟩
  have hN1 : N ≤ 50000000 := by omega
  have hN2 : (((pcs 1000000000 m).length : Int) + 1) / 2 = (N : Int) := by omega
  have HX0 := Lib.hid (root_start hN)
  have HN1 := Lib.hid hN1
  have HLN := Lib.hid hln
  clear hN
  have hmk := make_run 157 165 .u64 8 Tryz.underlying157 infoU64 N (by omega) (by omega)
  go_enter Tryz.func148, Tryz.ntmps148
  go_wp2_with fail
  refine (Sign_itoa _ _).mono ?_
  rintro e w' ⟨rfl, rfl⟩
  go_wp2_with fail
  refine (open_itoa (m : Int) w' (by rw [hna]; have := HL.out; omega)).mono ?_
  rintro e w2 ⟨va, rfl, hna2, hb2⟩
  obtain ⟨ma, rfl, hsa⟩ := hna2
  rw [hna] at hsa
  obtain ⟨A1, c1, rfl, -⟩ := id hsa
  have HSA := Lib.hid hsa
  clear hsa hna hsg
  have hbz : Below w2.heap.size w2 (w2.alloc (.cells (nu .u64 (List.replicate N 0)).toArray 165)) := (Below.refl w2.heap.size w2).alloc (Nat.le_refl _) _
  go_wp2_with (at_builtin; (refine app_snoc _ w2 rfl _ _ 157 165 .u64 rfl Tryz.underlying157 infoU64 1 1 rfl w2.heap.size N N (List.replicate N 0) (by simp) rfl (w2.heap.size + 1) (by simp) rfl (Rw_made .u64 165 w2 w2.heap.size N (Nat.le_refl _) (by omega)).own (Nat.le_refl _) hbz (by omega) ?_); intro A5 n5 c5 w5 hn5 hs5 hb5)
  rw [← pcs_pow] at hs5
  have hn6 : n5 = (pcs 1000000000 (1000000000 ^ N)).length := by rw [pcs_pow, hn5]; simp
  subst hn6
  have HS5 := Lib.hid hs5
  have HS2 := Lib.hid (HSA.out.below hb5)
  have hbw := below_trans hb2 hb5
  clear hn5 hs5 hb5 hb2 hbz HSA hmk hl0 hN2 hN1 hln
  go_loopg [5, 6, 7, 8, 9] (1000000000 ^ N) (fun x v s6 s7 s8 s9 wr => ∃ (wq : World) (A : Option Addr) (c : Nat), wq = wr ∧ v = .slice A (pcs 1000000000 x).length c ∧ Sl .u64 wq (.slice A (pcs 1000000000 x).length c) (pcs 1000000000 x) ∧ Sl .u64 wq (.slice A1 (pcs 1000000000 m).length c1) (pcs 1000000000 m) ∧ 0 < x ∧ x ≤ 1000000000 ^ N ∧ m < (x + 1) * (x + 1) ∧ Below w'.heap.size w' wq)
  case atStart => exact ⟨w5, A5, c5, rfl, by rw [pcs_pow]; simp, HS5.out, HS2.out, Nat.pow_pos (by decide), Nat.le_refl _, HX0.out, hbw⟩
  case round =>
    obtain ⟨wr, A, c, rfl, rfl, hsx, hsm, hx0, hx1, hx2, hbr⟩ := hrel
    clear hbw
    have HX1 := Lib.hid (And.intro hx0 (And.intro hx1 hx2))
    have HSX := Lib.hid hsx
    have HSM := Lib.hid hsm
    have hlx : (pcs 1000000000 gk).length ≤ 50000001 := Nat.le_trans (pcs_len_pow hx1) (by have := HN1.out; omega)
    have HLX := Lib.hid hlx
    have HLQ := Lib.hid (Nat.le_trans (pcs_mono (Nat.div_le_self m gk)) HLN.out)
    have HLS := Lib.hid (pcs_add_len HLX.out (Nat.le_trans HLQ.out (by decide)))
    clear hlx hsx hsm hx0 hx1 hx2
    go_wp2_with fail
    refine (divide_any _ _ _ _ wr (Good_pcs (by decide) _) (Good_pcs (by decide) _) HSM.out HSX.out (by rw [pv_pcs (by decide)]; exact HX1.out.1) (Nat.lt_of_le_of_lt HLN.out (by decide)) (Nat.lt_of_le_of_lt HLX.out (by decide))).mono ?_
    rw [pv_pcs (by decide), pv_pcs (by decide)]
    rintro e w6 ⟨vq, vr, rfl, hq, hr, hb6⟩
    obtain ⟨A3, c3, rfl, -⟩ := id hq
    obtain ⟨A4, c4, rfl, -⟩ := id hr
    have HQ := Lib.hid hq
    clear hq hr
    go_wp2_with fail
    refine (plus_any _ _ _ _ w6 (Good_pcs (by decide) _) (Good_pcs (by decide) _) (HSX.out.below hb6) HQ.out ⟨Nat.lt_of_le_of_lt HLX.out (by decide), Nat.lt_of_le_of_lt HLQ.out (by decide)⟩).mono ?_
    rw [pv_pcs (by decide), pv_pcs (by decide)]
    rintro e w7 ⟨vs, rfl, hs, hb7⟩
    obtain ⟨A5', c5', rfl, -⟩ := id hs
    have HS := Lib.hid hs
    clear hs
    have hb67 := below_trans hb6 hb7
    have hb8 : Below wr.heap.size wr (w7.alloc (.cells #[.int .u64 2] 165)) := hb67.alloc hb67.size _
    have hb78 : Below w7.heap.size w7 (w7.alloc (.cells #[.int .u64 2] 165)) := (Below.refl _ _).alloc (Nat.le_refl _) _
    go_wp2_with fail
    refine (divide_any _ [2] _ _ _ (Good_pcs (by decide) _) Good_two (HS.out.below hb78) (Sl_one .u64 w7 165 2) (by rw [pv_two]; decide) (Nat.lt_of_le_of_lt HLS.out (by decide)) (by decide)).mono ?_
    rw [pv_pcs (by decide), pv_two]
    rintro e w9 ⟨vy, vr, rfl, hy, hr, hb9⟩
    obtain ⟨A6, c6, rfl, -⟩ := id hy
    obtain ⟨A7, c7, rfl, -⟩ := id hr
    have HY := Lib.hid hy
    clear hy hr
    have hb10 := below_trans hb8 hb9
    have hbz := below_trans hbr hb10
    go_wp2_with fail
    refine (order_any _ _ _ _ w9 (Good_pcs (by decide) _) (Good_pcs (by decide) _) HY.out (HSX.out.below hb10)).mono ?_
    rw [pv_pcs (by decide), pv_pcs (by decide)]
    rintro e w11 ⟨rfl, hb11⟩
    have hbf := below_trans hbz hb11
    by_cases hlt : (gk + m / gk) / 2 < gk
    · have hc : cmpN ((gk + m / gk) / 2) gk = -1 := cmpN_lt hlt
      rw [hc]
      clear hc
      have HLT := Lib.hid hlt
      clear hlt
      go_wp2
      go_roundg ((gk + m / gk) / 2)
      case rel => exact ⟨_, _, _, rfl, rfl, HY.out.below hb11, (HSM.out.below hb10).below hb11, newton_pos HX1.out.1 HM.out HX1.out.2.2, Nat.le_trans (Nat.le_of_lt HLT.out) HX1.out.2.1, newton_up HX1.out.1 HX1.out.2.2, hbf⟩
      case measure => exact HLT.out
    · have hc : 0 ≤ cmpN ((gk + m / gk) / 2) gk ∧ cmpN ((gk + m / gk) / 2) gk ≤ 1 := by unfold cmpN; rw [if_neg hlt]; split <;> omega
      have hx : gk = r := root_uniq HR.out.1 HR.out.2 (newton_end HX1.out.1 (by omega)) HX1.out.2.2
      have HXR := Lib.hid hx
      generalize cmpN ((gk + m / gk) / 2) gk = cc at *
      clear hx hlt
      go_wp2_with fail
      refine (close_num false gk _ w11 (HE.out.below hbf) ((HSX.out.below hb10).below hb11) ?_).mono ?_
      · rw [HXR.out]; exact Nat.le_trans (nDigits_mono (Nat.le_trans (Nat.le_mul_self r) HR.out.1)) (by have := HL.out; omega)
      rw [show sgd false gk = (r : Int) by rw [HXR.out]; rfl]
      rintro e w12 ⟨rfl, hb12⟩
      go_wp2
      go_ret2
      exact ⟨rfl, below_trans hbf hb12⟩
end Go.Proofs.Kl
/- rational.Root of a square. -/
namespace Go.Proofs.Kl
open Go.RowKit Go.Shelf
theorem rat_sq (s : Rat) : (s * s).num = s.num * s.num ∧ (s * s).den = s.den * s.den := by
  have h := Rat.mul_def' s s
  have hp : 0 < s.den * s.den := Nat.mul_pos s.den_pos s.den_pos
  have hg : Nat.gcd (s.num * s.num).natAbs (s.den * s.den) = 1 := by
    rw [Int.natAbs_mul]
    have c : Nat.Coprime s.num.natAbs s.den := s.reduced
    exact Nat.Coprime.mul_left (Nat.Coprime.mul_right c c) (Nat.Coprime.mul_right c c)
  obtain ⟨e1, e2⟩ := divInt_num_den_pos (n := s.num * s.num) hp
  rw [← h, hg] at e1 e2
  exact ⟨by rw [e1]; simp, by rw [e2, Nat.div_one]⟩
theorem sgq_sq (s : Rat) : ¬ sgq (s * s) < 0 := by
  have h : ¬ s * s < 0 := by
    rw [← num_neg_iff, (rat_sq s).1]
    have h1 : 0 ≤ s.num * s.num := by rw [← Int.natAbs_mul_self' s.num]; exact Int.mul_nonneg (by omega) (by omega)
    omega
  unfold sgq
  rw [if_neg h]
  split <;> decide
set_option maxHeartbeats 1000000 in
set_option maxRecDepth 100000 in
theorem RRoot_sq (s : Rat) (w : World) (hE : Env w) (hs : 0 ≤ s) (h : Rg 100000000 s) :
    Calls Tryz.prog 107 #[sv (s * s)] w (Ret (.tuple #[sv s, .bool true]) w) := by
  have hn0 : 0 ≤ s.num := Rat.num_nonneg.2 hs
  obtain ⟨e1, e2⟩ := rat_sq s
  have hq : Rg 400000000 (s * s) := (h.mul h).mono (by decide)
  have g1 := h.num
  have g2 := h.den
  have d1 := Nat.le_trans (nDigits_mul s.num.natAbs s.num.natAbs) (Nat.le_trans (Nat.add_le_add g1 g1) (show _ ≤ 400000000 by decide))
  have d2 := Nat.le_trans (nDigits_mul s.den s.den) (Nat.le_trans (Nat.add_le_add g2 g2) (show _ ≤ 400000000 by decide))
  have sq : ∀ n : Nat, n * n < (n + 1) * (n + 1) := fun n => by
    have e : (n + 1) * (n + 1) = n * n + (n + (n + 1)) := by grind
    omega
  have HSG := Lib.hid (sgq_sq s)
  have HS := Lib.hid (fun w' => RSign_rt (s * s) w' hq)
  have HP := Lib.hid (fun w' hw => Parts_i (s * s) w' hw hq)
  have HN := Lib.hid (fun w' hw => Root_itoa (s.num.natAbs * s.num.natAbs) s.num.natAbs w' hw d1 (Nat.le_refl _) (sq _))
  have HD := Lib.hid (fun w' hw => Root_itoa (s.den * s.den) s.den w' hw d2 (Nat.le_refl _) (sq _))
  have HMN := Lib.hid (fun w' hw => Mul_itoa s.num s.num w' hw (Nat.le_trans g1 (by decide)) (Nat.le_trans g1 (by decide)))
  have HMD := Lib.hid (fun w' hw => Mul_itoa (s.den : Int) (s.den : Int) w' hw (by rw [Int.natAbs_natCast]; exact Nat.le_trans g2 (by decide)) (by rw [Int.natAbs_natCast]; exact Nat.le_trans g2 (by decide)))
  have HJ := Lib.hid (fun w' => join_rt s w' (Nat.le_trans g1 (by decide)) (Nat.le_trans g2 (by decide)))
  have HE := Lib.hid hE
  have en : ((s.num.natAbs : Nat) : Int) = s.num := by omega
  have en2 : ((s.num.natAbs * s.num.natAbs : Nat) : Int) = s.num * s.num := by rw [Int.natCast_mul, en]
  have ed2 : ((s.den * s.den : Nat) : Int) = (s.den : Int) * (s.den : Int) := Int.natCast_mul _ _
  rw [en2, en] at HN
  rw [ed2] at HD
  rw [e1, e2, ed2] at HP
  have l1 := itoa_len (s.num * s.num)
  have l2 := itoa_len ((s.den : Int) * (s.den : Int))
  have hl1 : (Lib.itoa (s.num * s.num)).length ≤ 1000000000 := by rw [Int.natAbs_mul] at l1; omega
  have hl2 : (Lib.itoa ((s.den : Int) * (s.den : Int))).length ≤ 1000000000 := by rw [Int.natAbs_mul, Int.natAbs_natCast] at l2; omega
  clear hn0 e1 e2 hq g1 g2 d1 d2 sq hE hs h en en2 ed2 l1 l2 hl1 hl2
  rw [← itoa_ofNat s.den] at HJ
  show Calls Tryz.prog 107 #[.string (tx (rt (s * s)))] w (Ret (.tuple #[.string (tx (rt s)), .bool true]) w)
  obtain ⟨X, hX⟩ : ∃ X, X = tx (rt (s * s)) := ⟨_, rfl⟩
  obtain ⟨S, hS⟩ : ∃ X, X = tx (rt s) := ⟨_, rfl⟩
  obtain ⟨N, hN⟩ : ∃ X, X = tx (Lib.itoa s.num) := ⟨_, rfl⟩
  obtain ⟨D, hD⟩ : ∃ X, X = tx (Lib.itoa (s.den : Int)) := ⟨_, rfl⟩
  obtain ⟨N2, hN2⟩ : ∃ X, X = tx (Lib.itoa (s.num * s.num)) := ⟨_, rfl⟩
  obtain ⟨D2, hD2⟩ : ∃ X, X = tx (Lib.itoa ((s.den : Int) * (s.den : Int))) := ⟨_, rfl⟩
  obtain ⟨G, hG⟩ : ∃ g, g = sgq (s * s) := ⟨_, rfl⟩
  rw [← hX, ← hG] at HS
  rw [← hG] at HSG
  rw [← hX, ← hN2, ← hD2] at HP
  rw [← hN2, ← hN] at HN HMN
  rw [← hD2, ← hD] at HD HMD
  rw [← hN, ← hD, ← hS] at HJ
  rw [← hX, ← hS]
  clear hX hS hN hD hN2 hD2 hG
  have hg := HSG.out
  go_enter Tryz.func107, Tryz.ntmps107
  go_wp2_with fail
  refine (HS.out _).mono ?_
  rintro e w' ⟨rfl, rfl⟩
  go_wp2_with fail
  refine (HP.out _ HE.out).mono ?_
  rintro e w1 ⟨rfl, hb1⟩
  go_wp2_with fail
  refine (HN.out _ (HE.out.below hb1)).mono ?_
  rintro e w2 ⟨rfl, hb2⟩
  have hbw2 := below_trans hb1 hb2
  go_wp2_with fail
  refine (HD.out _ (HE.out.below hbw2)).mono ?_
  rintro e w3 ⟨rfl, hb3⟩
  have hbw3 := below_trans hbw2 hb3
  go_wp2_with fail
  refine (HMN.out _ (HE.out.below hbw3)).mono ?_
  rintro e w4 ⟨rfl, hb4⟩
  have hbw4 := below_trans hbw3 hb4
  go_wp2_with fail
  refine (HMD.out _ (HE.out.below hbw4)).mono ?_
  rintro e w5 ⟨rfl, hb5⟩
  have hbw5 := below_trans hbw4 hb5
  go_wp2_with fail
  refine (HJ.out _).mono ?_
  rintro e w6 ⟨rfl, rfl⟩
  go_wp2
  go_ret2
  exact ⟨rfl, hbw5⟩
end Go.Proofs.Kl
/- rotation: Length. -/
namespace Go.Proofs.Kl
open Go.RowKit Go.Shelf
theorem rchkR_rt {q : Rat} (h : Rg 200 q) : rchkR (rt q) = 0 := rchkR_ok (Rok_rt h)
set_option maxHeartbeats 1000000 in
set_option maxRecDepth 100000 in
theorem Length_rt (p q r s : Rat) (w : World) (hE : Env w) (hp : Rg 200 p) (hq : Rg 200 q) (hr : Rg 200 r) (hs0 : 0 ≤ s) (hs : Rg 200 s) (hss : s * s = p * p + q * q + r * r) :
    Calls Tryz.prog 58 #[v3 p q r] w (Ret (.tuple #[sv s, .int .i64 0]) w) := by
  have HV := Lib.hid (fun w' hw => VCheck_any (rt p) (rt q) (rt r) w' hw (Rg_len hp (by decide)) (Rg_len hq (by decide)) (Rg_len hr (by decide)))
  rw [numsR3_ok (Rok_rt hp) (Rok_rt hq) (Rok_rt hr)] at HV
  have HD := Lib.hid (fun w' hw => dot_rt p q r p q r w' hw (hp.mono (by decide)) (hq.mono (by decide)) (hr.mono (by decide)) (hp.mono (by decide)) (hq.mono (by decide)) (hr.mono (by decide)))
  rw [← hss] at HD
  have HR := Lib.hid (fun w' hw => RRoot_sq s w' hw hs0 (hs.mono (by decide)))
  have HC := Lib.hid (fun w' hw => RCheck_any (rt s) w' hw (Rg_len hs (by decide)))
  rw [rchkR_rt hs] at HC
  have HE := Lib.hid hE
  clear hp hq hr hs0 hs hss hE
  have hb0 := ((Below.refl w.heap.size w).alloc (Nat.le_refl _) (.cells #[sv p, sv q, sv r] 41))
  go_enter Tryz.func58, Tryz.ntmps58
  go_wp2_with fail
  refine (HV.out _ (HE.out.below hb0)).mono ?_
  rintro e w1 ⟨rfl, hb1⟩
  have hbw1 := below_trans hb0 hb1
  have k0 : w1.heap[w.heap.size]? = some (.cells #[sv p, sv q, sv r] 41 (0, 0)) := (hb1.block _ (by simp)).trans (World.alloc_heap_new w _)
  have c0 := (Lib.cell_of_heap k0 0).trans rfl
  have c1 := (Lib.cell_of_heap k0 1).trans rfl
  have c2 := (Lib.cell_of_heap k0 2).trans rfl
  clear k0
  go_wp2_with fail
  refine (HD.out _ (HE.out.below hbw1)).mono ?_
  rintro e w2 ⟨rfl, hb2⟩
  have hbw2 := below_trans hbw1 hb2
  go_wp2_with fail
  refine (HR.out _ (HE.out.below hbw2)).mono ?_
  rintro e w3 ⟨rfl, hb3⟩
  have hbw3 := below_trans hbw2 hb3
  go_wp2_with fail
  refine (HC.out _ (HE.out.below hbw3)).mono ?_
  rintro e w4 ⟨rfl, hb4⟩
  have hbw4 := below_trans hbw3 hb4
  go_wp2
  go_ret2
  exact ⟨rfl, hbw4⟩
end Go.Proofs.Kl
/- Plain facts on primitive quaternions. -/
namespace Go.Proofs.Kl
open Go.RowKit Go.Shelf
theorem mul_den_num (q : Rat) : q * (q.den : Rat) = (q.num : Rat) := by
  rw [Rat.mul_def', show ((q.den : Rat)).num = (q.den : Int) from rfl, show ((q.den : Rat)).den = 1 from rfl, Nat.mul_one]
  rw [← Rat.mkRat_one q.num, Rat.mkRat_eq_iff (Nat.ne_of_gt q.den_pos) (by decide)]
  simp
/-- the next common denominator. -/
def dnext (D d : Nat) : Nat := D * (d / Nat.gcd D d)
theorem dnext_dvd_left (D d : Nat) : D ∣ dnext D d := ⟨_, rfl⟩
theorem dnext_dvd_right (D d : Nat) : d ∣ dnext D d := by
  obtain ⟨a, ha⟩ := Nat.gcd_dvd_left D d
  have hd : Nat.gcd D d * (d / Nat.gcd D d) = d := Nat.mul_div_cancel' (Nat.gcd_dvd_right D d)
  refine ⟨a, ?_⟩
  unfold dnext
  generalize Nat.gcd D d = g at *
  rw [ha, Nat.mul_right_comm, hd]
theorem dnext_pos {D d : Nat} (hD : 0 < D) (hd : 0 < d) : 0 < dnext D d :=
  Nat.mul_pos hD (Nat.div_pos (Nat.le_of_dvd hd (Nat.gcd_dvd_right _ _)) (Nat.gcd_pos_of_pos_left _ hD))
theorem dnext_dig {D d j k : Nat} (hD : Lib.nDigits D ≤ j) (hd : Lib.nDigits d ≤ k) : Lib.nDigits (dnext D d) ≤ j + k :=
  Nat.le_trans (nDigits_mul _ _) (Nat.add_le_add hD (Nat.le_trans (nDigits_mono (Nat.div_le_self _ _)) hd))
theorem whole_num {q : Rat} {D : Nat} (h : q.den ∣ D) : q * (D : Rat) = ((q * (D : Rat)).num : Rat) := by
  obtain ⟨m, rfl⟩ := h
  have e : q * ((q.den * m : Nat) : Rat) = ((q.num * (m : Int) : Int) : Rat) := by
    rw [Rat.natCast_mul, ← Rat.mul_assoc, mul_den_num, Rat.intCast_mul]; rfl
  rw [e, Rat.num_intCast]
/-- the greatest common divisor, the first sign. -/
def gl : List Int → Nat := List.foldl (fun g n => Nat.gcd g n.natAbs) 0
def sl : List Int → Int := List.foldl (fun s n => if s = 0 then sgn n else s) 0
theorem gl_snoc (l : List Int) (n : Int) : gl (l ++ [n]) = Nat.gcd (gl l) n.natAbs := by simp [gl]
theorem sl_snoc (l : List Int) (n : Int) : sl (l ++ [n]) = if sl l = 0 then sgn n else sl l := by unfold sl; rw [List.foldl_append]; rfl
theorem gl_mul (t : Int) (a b c d : Int) : gl [t * a, t * b, t * c, t * d] = t.natAbs * gl [a, b, c, d] := by
  simp only [gl, List.foldl, Int.natAbs_mul, Nat.gcd_zero_left, Nat.gcd_mul_left]
theorem sgn_pos {n : Int} (h : 0 < n) : sgn n = 1 := by unfold sgn; rw [if_neg (by omega), if_neg (by omega)]
theorem sgn_neg {n : Int} (h : n < 0) : sgn n = -1 := by unfold sgn; rw [if_neg (by omega), if_pos h]
theorem sgn_nul {n : Int} (h : n = 0) : sgn n = 0 := if_pos h
theorem sgn_tmul (t n : Int) : sgn (t * n) = sgn t * sgn n := by
  rcases Int.lt_trichotomy t 0 with h | h | h
  · rw [sgn_neg h]
    rcases Int.lt_trichotomy n 0 with h' | h' | h'
    · rw [sgn_neg h', sgn_pos (Int.mul_pos_of_neg_of_neg h h')]; rfl
    · rw [sgn_nul h', h', Int.mul_zero]; rfl
    · rw [sgn_pos h', sgn_neg (Int.mul_neg_of_neg_of_pos h h')]; rfl
  · rw [sgn_nul h, h, Int.zero_mul, Int.zero_mul]; rfl
  · rw [sgn_pos h]
    rcases Int.lt_trichotomy n 0 with h' | h' | h'
    · rw [sgn_neg h', sgn_neg (Int.mul_neg_of_pos_of_neg h h')]; rfl
    · rw [sgn_nul h', h', Int.mul_zero]; rfl
    · rw [sgn_pos h', sgn_pos (Int.mul_pos h h')]; rfl
theorem sgn_ne {t : Int} (h : t ≠ 0) : sgn t ≠ 0 := by
  rcases Int.lt_or_gt_of_ne h with h | h
  · rw [sgn_neg h]; decide
  · rw [sgn_pos h]; decide
theorem sl_mul {t : Int} (ht : t ≠ 0) (a b c d : Int) : sl [t * a, t * b, t * c, t * d] = sgn t * sl [a, b, c, d] := by
  have h0 := sgn_ne ht
  have hz : ∀ x : Int, sgn t * x = 0 ↔ x = 0 := fun x => by rw [Int.mul_eq_zero]; exact ⟨fun h => h.resolve_left h0, Or.inr⟩
  have hi : ∀ x n : Int, (if sgn t * x = 0 then sgn t * n else sgn t * x) = sgn t * (if x = 0 then n else x) := fun x n => by
    by_cases h : x = 0
    · rw [if_pos ((hz x).2 h), if_pos h]
    · rw [if_neg (fun h' => h ((hz x).1 h')), if_neg h]
  simp only [sl, List.foldl, sgn_tmul, if_true, hi]
theorem dvd_gl {m : Nat} {a b c d : Int} (h1 : m ∣ a.natAbs) (h2 : m ∣ b.natAbs) (h3 : m ∣ c.natAbs) (h4 : m ∣ d.natAbs) : m ∣ gl [a, b, c, d] := by
  simp only [gl, List.foldl, Nat.gcd_zero_left]
  exact Nat.dvd_gcd (Nat.dvd_gcd (Nat.dvd_gcd h1 h2) h3) h4
/-- a rational number whose products with numbers without a common divisor are whole is whole. -/
theorem whole_of {T : Rat} {a b c d n0 n1 n2 n3 : Int} (h0 : T * a = n0) (h1 : T * b = n1) (h2 : T * c = n2) (h3 : T * d = n3) (hg : gl [a, b, c, d] = 1) : T = (T.num : Rat) := by
  have key : ∀ {k n : Int}, T * (k : Rat) = (n : Rat) → T.den ∣ k.natAbs := by
    intro k n h
    have e : T.num * k = n * (T.den : Int) := by
      have h' : ((T.num * k : Int) : Rat) = ((n * (T.den : Int) : Int) : Rat) := by
        rw [Rat.intCast_mul, Rat.intCast_mul, ← h, ← mul_den_num T]
        show T * (T.den : Rat) * (k : Rat) = T * (k : Rat) * (T.den : Rat)
        rw [Rat.mul_assoc, Rat.mul_comm (T.den : Rat), ← Rat.mul_assoc]
      exact Rat.intCast_inj.1 h'
    have e2 : T.num.natAbs * k.natAbs = n.natAbs * T.den := by
      rw [← Int.natAbs_mul, e, Int.natAbs_mul, Int.natAbs_natCast]
    have hd : T.den ∣ T.num.natAbs * k.natAbs := ⟨n.natAbs, by rw [e2, Nat.mul_comm]⟩
    exact Nat.Coprime.dvd_of_dvd_mul_left (Nat.Coprime.symm T.reduced) hd
  have h : T.den = 1 := by
    have := dvd_gl (key h0) (key h1) (key h2) (key h3)
    rw [hg] at this; exact Nat.dvd_one.1 this
  rw [← mul_den_num T, h]; exact (Rat.mul_one T).symm
/-- a primitive quaternion: no common divisor, its first part that is not 0 is positive. -/
structure Prim4 (a b c d : Int) : Prop where
  g : gl [a, b, c, d] = 1
  s : sl [a, b, c, d] = 1
theorem mul_zero_of {C x : Rat} (hC : C ≠ 0) (h : C * x = 0) : x = 0 := (Rat.mul_eq_zero.1 h).resolve_left hC
/-- the numerators over a common denominator, as multiples of the primitive parts. -/
theorem prim_mult {q0 q1 q2 q3 C : Rat} {a b c d : Int} {D : Nat} (hp : Prim4 a b c d) (hC : C ≠ 0) (hD : 0 < D) (h0 : q0 = C * a) (h1 : q1 = C * b) (h2 : q2 = C * c) (h3 : q3 = C * d)
    (d0 : q0.den ∣ D) (d1 : q1.den ∣ D) (d2 : q2.den ∣ D) (d3 : q3.den ∣ D) :
    ∃ t : Int, t ≠ 0 ∧ (q0 * (D : Rat)).num = t * a ∧ (q1 * (D : Rat)).num = t * b ∧ (q2 * (D : Rat)).num = t * c ∧ (q3 * (D : Rat)).num = t * d := by
  have hD0 : (D : Rat) ≠ 0 := by intro h; have : ((D : Int) : Rat) = ((0 : Int) : Rat) := h; have := Rat.intCast_inj.1 this; omega
  have hT : C * (D : Rat) ≠ 0 := fun h => hC ((Rat.mul_eq_zero.1 h).resolve_right hD0)
  have mv : ∀ {q : Rat} {k : Int}, q = C * k → q.den ∣ D → C * (D : Rat) * (k : Rat) = ((q * (D : Rat)).num : Rat) := by
    intro q k h hd
    rw [← whole_num hd, h, Rat.mul_assoc, Rat.mul_comm (D : Rat), ← Rat.mul_assoc]
  have hw := whole_of (mv h0 d0) (mv h1 d1) (mv h2 d2) (mv h3 d3) hp.g
  have fin : ∀ {q : Rat} {k : Int}, q = C * k → q.den ∣ D → (q * (D : Rat)).num = (C * (D : Rat)).num * k := by
    intro q k h hd
    have := mv h hd
    rw [hw] at this
    exact Rat.intCast_inj.1 (by rw [Rat.intCast_mul]; exact this.symm)
  exact ⟨(C * (D : Rat)).num, fun h => hT (by rw [hw, h]; rfl), fin h0 d0, fin h1 d1, fin h2 d2, fin h3 d3⟩
theorem prim_sign {t a b c d : Int} (ht : t ≠ 0) (hp : Prim4 a b c d) : (if sl [t * a, t * b, t * c, t * d] < 0 then -((gl [t * a, t * b, t * c, t * d] : Nat) : Int) else ((gl [t * a, t * b, t * c, t * d] : Nat) : Int)) = t := by
  rw [sl_mul ht, gl_mul, hp.g, hp.s]
  rcases Int.lt_or_gt_of_ne ht with h | h
  · rw [sgn_neg h, if_pos (by decide)]; omega
  · rw [sgn_pos h, if_neg (by decide)]; omega
theorem div_prim {t k : Int} (ht : t ≠ 0) : t * k / t = k := Int.mul_ediv_cancel_left k ht
end Go.Proofs.Kl
/- integer.Small. -/
namespace Go.Proofs.Kl
open Go.RowKit Go.Shelf
set_option maxRecDepth 100000 in
theorem Small_ok (n : Int) (w : World) (h1 : -9223372036854775808 ≤ n) (h2 : n ≤ 9223372036854775807) :
    Calls Tryz.prog 114 #[.string (tx (Lib.itoa n))] w (Ret (.tuple #[.int .i64 n, .bool true]) w) := by
  have hl : (Lib.itoa n).length ≤ 20 := by
    have h := (nDigits_le (u := n.natAbs) (k := 19) (by decide)).2 (by omega)
    have := itoa_len n; omega
  have HP := Lib.hid (fun w' => Tryz.strconv_ParseInt_10_at64_ok (tx (Lib.itoa n)) (by show (Lib.itoa n).length ≤ _; omega) n (parseIntB_itoa n h1 h2) w')
  clear hl
  go_enter Tryz.func114, Tryz.ntmps114
  go_wp2_with fail
  refine (HP.out w).mono ?_
  rintro e w1 ⟨rfl, hw1⟩
  have hb : Below w.heap.size w w1 := by
    rcases hw1 with rfl | ⟨t, rfl⟩
    · exact Below.refl _ _
    · exact below_bytesWorld _ _ _
  clear hw1
  go_wp2
  go_ret2
  exact ⟨rfl, hb⟩
end Go.Proofs.Kl
/- rotation: whole. -/
namespace Go.Proofs.Kl
open Go.RowKit Go.Shelf
theorem Gcd_nat (D e : Nat) (w : World) (hE : Env w) (h1 : Lib.nDigits D ≤ 400000000) (h2 : Lib.nDigits e ≤ 400000000) :
    Calls Tryz.prog 84 #[.string (tx (Lib.itoa (D : Int))), .string (tx (Lib.itoa (e : Int)))] w (Ret (.string (tx (Lib.itoa ((Nat.gcd D e : Nat) : Int)))) w) := by
  have := Gcd_itoa (D : Int) (e : Int) w hE (by rw [Int.natAbs_natCast]; exact h1) (by rw [Int.natAbs_natCast]; exact h2)
  rw [Int.natAbs_natCast, Int.natAbs_natCast, ← itoa_ofNat] at this
  exact this
theorem DivMod_nat (e g : Nat) (w : World) (hE : Env w) (h1 : Lib.nDigits e ≤ 400000000) (h2 : Lib.nDigits g ≤ 400000000) (hg : 0 < g) :
    Calls Tryz.prog 85 #[.string (tx (Lib.itoa (e : Int))), .string (tx (Lib.itoa (g : Int)))] w (Ret (.tuple #[.string (tx (Lib.itoa ((e / g : Nat) : Int))), .string (tx (Lib.itoa ((e % g : Nat) : Int))), .int .i64 0]) w) := by
  have := DivMod_itoa (e : Int) (g : Int) w hE (by rw [Int.natAbs_natCast]; exact h1) (by rw [Int.natAbs_natCast]; exact h2) (by omega)
  rw [← Int.natCast_ediv, ← Int.natCast_emod] at this
  exact this
theorem Mul_nat (D m : Nat) (w : World) (hE : Env w) (h1 : Lib.nDigits D ≤ 400000000) (h2 : Lib.nDigits m ≤ 400000000) :
    Calls Tryz.prog 86 #[.string (tx (Lib.itoa (D : Int))), .string (tx (Lib.itoa (m : Int)))] w (Ret (.string (tx (Lib.itoa ((D * m : Nat) : Int)))) w) := by
  have := Mul_itoa (D : Int) (m : Int) w hE (by rw [Int.natAbs_natCast]; exact h1) (by rw [Int.natAbs_natCast]; exact h2)
  rw [← Int.natCast_mul] at this
  exact this
theorem Gcd_ni (D : Nat) (n : Int) (w : World) (hE : Env w) (h1 : Lib.nDigits D ≤ 400000000) (h2 : Lib.nDigits n.natAbs ≤ 400000000) :
    Calls Tryz.prog 84 #[.string (tx (Lib.itoa (D : Int))), .string (tx (Lib.itoa n))] w (Ret (.string (tx (Lib.itoa ((Nat.gcd D n.natAbs : Nat) : Int)))) w) := by
  have := Gcd_itoa (D : Int) n w hE (by rw [Int.natAbs_natCast]; exact h1) h2
  rw [Int.natAbs_natCast, ← itoa_ofNat] at this
  exact this
/-- what one element brings to the first loop. -/
def El (X : ByteArray) (e : Nat) : Prop := (∀ w', Env w' → ∃ T : ByteArray, Calls Tryz.prog 83 #[.string X] w' (Ret (.tuple #[.string T, .string (tx (Lib.itoa (e : Int)))]) w')) ∧ 0 < e ∧ Lib.nDigits e ≤ 1000
theorem El_rt {q : Rat} (h : Rg 1000 q) : El (tx (rt q)) q.den := ⟨fun w' hw => ⟨_, Parts_i q w' hw (h.mono (by decide))⟩, q.den_pos, h.den⟩
/-- what one element brings to the second loop. -/
def El2 (X D : ByteArray) (n : Int) : Prop := (∀ w', Env w' → ∃ Y : ByteArray, Calls Tryz.prog 68 #[.string X, .string D] w' (Ret (.string Y) w') ∧ ∀ w', Env w' → ∃ T : ByteArray, Calls Tryz.prog 83 #[.string Y] w' (Ret (.tuple #[.string (tx (Lib.itoa n)), .string T]) w')) ∧ Lib.nDigits n.natAbs ≤ 10000
theorem El2_rt {q : Rat} {D : Nat} (h : Rg 1000 q) (hD : Lib.nDigits D ≤ 5000) : El2 (tx (rt q)) (tx (Lib.itoa (D : Int))) (q * (D : Rat)).num := by
  have hd : Rg 5000 (D : Rat) := by
    refine ⟨?_, ?_⟩
    · show Lib.nDigits (Int.natAbs (D : Int)) ≤ 5000
      rw [Int.natAbs_natCast]; exact hD
    · show Lib.nDigits 1 ≤ 5000
      rw [Lib.nDigits_small (by decide)]; decide
  have hm := h.mul hd
  refine ⟨fun w' hw => ⟨tx (rt (q * (D : Rat))), ?_, fun w' hw => ⟨_, Parts_i _ w' hw (hm.mono (by decide))⟩⟩, Nat.le_trans hm.num (by decide)⟩
  have := RMul_rt q (D : Rat) w' hw (h.mono (by decide)) (hd.mono (by decide))
  rw [show rt (D : Rat) = Lib.itoa (D : Int) from rt_int (D : Int)] at this
  exact this
/-- what one element brings to the third loop. -/
def El3 (n t k : Int) : Prop := (∀ w', Env w' → ∃ R : ByteArray, Calls Tryz.prog 85 #[.string (tx (Lib.itoa n)), .string (tx (Lib.itoa t))] w' (Ret (.tuple #[.string (tx (Lib.itoa k)), .string R, .int .i64 0]) w')) ∧ -1000000 ≤ k ∧ k ≤ 1000000
theorem El3_of {t k : Int} (ht : t ≠ 0) (hn : Lib.nDigits (t * k).natAbs ≤ 10000) (hd : Lib.nDigits t.natAbs ≤ 10000) (h1 : -1000000 ≤ k ∧ k ≤ 1000000) : El3 (t * k) t k := by
  refine ⟨fun w' hw => ⟨tx (Lib.itoa (t * k % t)), ?_⟩, h1⟩
  have := DivMod_itoa (t * k) t w' hw (Nat.le_trans hn (by decide)) (Nat.le_trans hd (by decide)) ht
  rw [div_prim ht] at this
  exact this
/-- behind the first loop. -/
theorem whole_mid {q0 q1 q2 q3 C : Rat} {a b c d : Int} (hp : Prim4 a b c d) (hC : C ≠ 0) (e0 : q0 = C * a) (e1 : q1 = C * b) (e2 : q2 = C * c) (e3 : q3 = C * d)
    (r0 : Rg 1000 q0) (r1 : Rg 1000 q1) (r2 : Rg 1000 q2) (r3 : Rg 1000 q3) (ha : -1000000 ≤ a ∧ a ≤ 1000000) (hb : -1000000 ≤ b ∧ b ≤ 1000000) (hc : -1000000 ≤ c ∧ c ≤ 1000000) (hd : -1000000 ≤ d ∧ d ≤ 1000000)
    (D : Nat) (hD : 0 < D) (h0 : q0.den ∣ D) (h1 : q1.den ∣ D) (h2 : q2.den ∣ D) (h3 : q3.den ∣ D) (hdg : Lib.nDigits D ≤ 5000) :
    ∃ t n0 n1 n2 n3 : Int, (El2 (tx (rt q0)) (tx (Lib.itoa (D : Int))) n0 ∧ El2 (tx (rt q1)) (tx (Lib.itoa (D : Int))) n1 ∧ El2 (tx (rt q2)) (tx (Lib.itoa (D : Int))) n2 ∧ El2 (tx (rt q3)) (tx (Lib.itoa (D : Int))) n3)
      ∧ (El3 n0 t a ∧ El3 n1 t b ∧ El3 n2 t c ∧ El3 n3 t d) ∧ (if sl [n0, n1, n2, n3] < 0 then -((gl [n0, n1, n2, n3] : Nat) : Int) else ((gl [n0, n1, n2, n3] : Nat) : Int)) = t := by
  obtain ⟨t, ht, f0, f1, f2, f3⟩ := prim_mult hp hC hD e0 e1 e2 e3 h0 h1 h2 h3
  have g0 := El2_rt r0 hdg
  have g1 := El2_rt r1 hdg
  have g2 := El2_rt r2 hdg
  have g3 := El2_rt r3 hdg
  rw [f0] at g0
  rw [f1] at g1
  rw [f2] at g2
  rw [f3] at g3
  have hs := prim_sign ht hp
  have hgd : Lib.nDigits t.natAbs ≤ 10000 := by
    have hgl : t.natAbs = gl [t * a, t * b, t * c, t * d] := by rw [gl_mul, hp.g, Nat.mul_one]
    rw [hgl]
    simp only [gl, List.foldl, Nat.gcd_zero_left]
    exact nDigits_gcd_le (nDigits_gcd_le (nDigits_gcd_le g0.2 g1.2) g2.2) g3.2
  exact ⟨t, _, _, _, _, ⟨g0, g1, g2, g3⟩, ⟨El3_of ht g0.2 hgd ha, El3_of ht g1.2 hgd hb, El3_of ht g2.2 hgd hc, El3_of ht g3.2 hgd hd⟩, hs⟩
end Go.Proofs.Kl
/- rotation: whole. -/
namespace Go.Proofs.Kl
open Go.RowKit Go.Shelf
attribute [local go_sem] Instr.index part asIntOf
theorem dvd_step {ns : List Nat} {D n k : Nat} (hn : ns.getD k 1 = n) (h : ∀ j, j < k → ns.getD j 1 ∣ D) : ∀ j, j < k + 1 → ns.getD j 1 ∣ dnext D n := by
  intro j hj
  rcases Nat.lt_succ_iff_lt_or_eq.1 hj with h' | rfl
  · exact Nat.dvd_trans (h j h') (dnext_dvd_left _ _)
  · rw [hn]; exact dnext_dvd_right _ _
theorem gl_step {ts : List Int} {k : Nat} {n : Int} (h : ts[k]? = some n) : gl (ts.take (k + 1)) = Nat.gcd (gl (ts.take k)) n.natAbs ∧ sl (ts.take (k + 1)) = if sl (ts.take k) = 0 then sgn n else sl (ts.take k) := by
  rw [List.take_add_one, h]
  exact ⟨gl_snoc _ _, sl_snoc _ _⟩
set_option maxHeartbeats 4000000 in
set_option maxRecDepth 100000 in
theorem whole_ok (q0 q1 q2 q3 C : Rat) (a b c d : Int) (w : World) (hE : Env w) (hp : Prim4 a b c d) (hC : C ≠ 0) (e0 : q0 = C * a) (e1 : q1 = C * b) (e2 : q2 = C * c) (e3 : q3 = C * d)
    (r0 : Rg 1000 q0) (r1 : Rg 1000 q1) (r2 : Rg 1000 q2) (r3 : Rg 1000 q3) (ha : -1000000 ≤ a ∧ a ≤ 1000000) (hb : -1000000 ≤ b ∧ b ≤ 1000000) (hc : -1000000 ≤ c ∧ c ≤ 1000000) (hd : -1000000 ≤ d ∧ d ≤ 1000000) :
    Calls Tryz.prog 60 #[.agg #[sv q0, sv q1, sv q2, sv q3]] w (Ret (.tuple #[qv a b c d, .int .i64 0]) w) := by
  have F0 := Lib.hid (El_rt r0)
  have F1 := Lib.hid (El_rt r1)
  have F2 := Lib.hid (El_rt r2)
  have F3 := Lib.hid (El_rt r3)
  have HM := Lib.hid (whole_mid hp hC e0 e1 e2 e3 r0 r1 r2 r3 ha hb hc hd)
  have HE := Lib.hid hE
  clear hp hC e0 e1 e2 e3 r0 r1 r2 r3 ha hb hc hd hE
  show Calls Tryz.prog 60 #[.agg #[.string (tx (rt q0)), .string (tx (rt q1)), .string (tx (rt q2)), .string (tx (rt q3))]] w _
  obtain ⟨X0, hX0⟩ : ∃ X, X = tx (rt q0) := ⟨_, rfl⟩
  obtain ⟨X1, hX1⟩ : ∃ X, X = tx (rt q1) := ⟨_, rfl⟩
  obtain ⟨X2, hX2⟩ : ∃ X, X = tx (rt q2) := ⟨_, rfl⟩
  obtain ⟨X3, hX3⟩ : ∃ X, X = tx (rt q3) := ⟨_, rfl⟩
  obtain ⟨m0, hm0⟩ : ∃ n, n = q0.den := ⟨_, rfl⟩
  obtain ⟨m1, hm1⟩ : ∃ n, n = q1.den := ⟨_, rfl⟩
  obtain ⟨m2, hm2⟩ : ∃ n, n = q2.den := ⟨_, rfl⟩
  obtain ⟨m3, hm3⟩ : ∃ n, n = q3.den := ⟨_, rfl⟩
  rw [← hX0, ← hm0] at F0
  rw [← hX1, ← hm1] at F1
  rw [← hX2, ← hm2] at F2
  rw [← hX3, ← hm3] at F3
  rw [← hX0, ← hX1, ← hX2, ← hX3, ← hm0, ← hm1, ← hm2, ← hm3] at HM
  rw [← hX0, ← hX1, ← hX2, ← hX3]
  clear hX0 hX1 hX2 hX3 hm0 hm1 hm2 hm3
  obtain ⟨ms, hms⟩ : ∃ ms, ms = [m0, m1, m2, m3] := ⟨_, rfl⟩
  have HMS := Lib.hid hms
  clear hms
  have h11 : tx (Lib.itoa ((1 : Nat) : Int)) = ⟨#[49]⟩ := by rw [show ((1 : Nat) : Int) = 1 from rfl, itoa_one]
  have H11 := Lib.hid h11
  clear h11
  go_enter Tryz.func60, Tryz.ntmps60
  go_wp2_with fail
  go_loopw [4, 7, 8, 9, 10, 11, 12, 26] (fun s4 s7 s8 s9 s10 s11 s12 i wr => ∃ (wq : World) (k D : Nat), wq = wr ∧ k ≤ 4 ∧ i = .int .i64 (k : Int) ∧ s4 = .string (tx (Lib.itoa (D : Int))) ∧ 0 < D ∧ Lib.nDigits D ≤ 1 + k * 1000 ∧ (∀ j, j < k → ms.getD j 1 ∣ D) ∧ Below w.heap.size w wq
      ∧ wq.heap[w.heap.size]? = some (.cells #[.string X0, .string X1, .string X2, .string X3] 103 (0, 0))
      ∧ wq.heap[w.heap.size + 1]? = some (.cells #[.int .i64 0, .int .i64 0, .int .i64 0, .int .i64 0] 22 (0, 0))) (fun _ _ _ _ _ _ _ i _ => (5 - intOf i).toNat)
  case atStart =>
    refine ⟨_, 0, 1, rfl, by omega, rfl, by rw [H11.out], by decide, by rw [Lib.nDigits_small (by decide)]; decide, fun j hj => by omega, ?_, ?_, ?_⟩
    · exact ((Below.refl w.heap.size w).alloc (Nat.le_refl _) _).alloc (by simp) _
    · exact heap_alloc_old _ (World.alloc_heap_new w _)
    · have := World.alloc_heap_new (w.alloc (.cells #[.string X0, .string X1, .string X2, .string X3] 103)) (.cells #[.int .i64 0, .int .i64 0, .int .i64 0, .int .i64 0] 22)
      simpa using this
  case round =>
    obtain ⟨wr, k, D, rfl, hk, rfl, rfl, hD0, hDd, hdv, hbr, hh0, hh1⟩ := hrel
    have HH0 := Lib.hid hh0
    have HH1 := Lib.hid hh1
    have HDV := Lib.hid hdv
    have HD := Lib.hid (And.intro hD0 hDd)
    clear hh0 hh1 hdv hD0 hDd
    by_cases hlt : k < 4
    · rcases (show k = 0 ∨ k = 1 ∨ k = 2 ∨ k = 3 by omega) with rfl | rfl | rfl | rfl
      case' inl => (have HW := F0; have HN := Lib.hid (show ms.getD 0 1 = m0 by rw [HMS.out]; rfl))
      case' inr.inl => (have HW := F1; have HN := Lib.hid (show ms.getD 1 1 = m1 by rw [HMS.out]; rfl))
      case' inr.inr.inl => (have HW := F2; have HN := Lib.hid (show ms.getD 2 1 = m2 by rw [HMS.out]; rfl))
      case' inr.inr.inr => (have HW := F3; have HN := Lib.hid (show ms.getD 3 1 = m3 by rw [HMS.out]; rfl))
      all_goals
        clear hk hlt
        have HDN := Lib.hid (dvd_step HN.out HDV.out)
        have HDD := Lib.hid (And.intro (dnext_pos HD.out.1 HW.out.2.1) (dnext_dig HD.out.2 HW.out.2.2))
        have HD9 := Lib.hid (show Lib.nDigits D ≤ 400000000 by have := HD.out; omega)
        have HW9 := Lib.hid (Nat.le_trans HW.out.2.2 (show 1000 ≤ 400000000 by decide))
        go_wp2_with fail
        obtain ⟨T, hT⟩ := HW.out.1 wr (HE.out.below hbr)
        refine hT.mono ?_
        clear hT
        rintro e w1 ⟨rfl, hb1⟩
        have hbw1 := below_trans hbr hb1
        go_wp2_with fail
        refine (Gcd_nat D _ w1 (HE.out.below hbw1) HD9.out HW9.out).mono ?_
        rintro e w2 ⟨rfl, hb2⟩
        have hbw2 := below_trans hbw1 hb2
        go_wp2_with fail
        refine (DivMod_nat _ _ w2 (HE.out.below hbw2) HW9.out (by have := nDigits_gcd_le HD9.out HW9.out; exact this) (Nat.gcd_pos_of_pos_left _ HD.out.1)).mono ?_
        rintro e w3 ⟨rfl, hb3⟩
        have hbw3 := below_trans hbw2 hb3
        go_wp2_with fail
        refine (Mul_nat D _ w3 (HE.out.below hbw3) HD9.out (Nat.le_trans (nDigits_mono (Nat.div_le_self _ _)) HW9.out)).mono ?_
        rintro e w4 ⟨rfl, hb4⟩
        have hbw4 := below_trans hbw3 hb4
        have g0 := ((below_trans (below_trans (below_trans hb1 hb2) hb3) hb4).block _ (heap_lt HH0.out)).trans HH0.out
        have g1 := ((below_trans (below_trans (below_trans hb1 hb2) hb3) hb4).block _ (heap_lt HH1.out)).trans HH1.out
        have HG0 := Lib.hid g0
        have HG1 := Lib.hid g1
        clear g0 g1
        go_wp2
        go_roundw
        · first
            | exact ⟨w4, 1, dnext D m0, rfl, by decide, rfl, rfl, HDD.out.1, HDD.out.2, HDN.out, hbw4, HG0.out, HG1.out⟩
            | exact ⟨w4, 2, dnext D m1, rfl, by decide, rfl, rfl, HDD.out.1, HDD.out.2, HDN.out, hbw4, HG0.out, HG1.out⟩
            | exact ⟨w4, 3, dnext D m2, rfl, by decide, rfl, rfl, HDD.out.1, HDD.out.2, HDN.out, hbw4, HG0.out, HG1.out⟩
            | exact ⟨w4, 4, dnext D m3, rfl, by decide, rfl, rfl, HDD.out.1, HDD.out.2, HDN.out, hbw4, HG0.out, HG1.out⟩
        · simp only [intOf]; omega
    · obtain rfl : k = 4 := by omega
      have hd0 : m0 ∣ D := by have := HDV.out 0 (by omega); rw [HMS.out] at this; exact this
      have hd1 : m1 ∣ D := by have := HDV.out 1 (by omega); rw [HMS.out] at this; exact this
      have hd2 : m2 ∣ D := by have := HDV.out 2 (by omega); rw [HMS.out] at this; exact this
      have hd3 : m3 ∣ D := by have := HDV.out 3 (by omega); rw [HMS.out] at this; exact this
      obtain ⟨t, n0, n1, n2, n3, ⟨G0, G1, G2, G3⟩, ⟨K0, K1, K2, K3⟩, hs⟩ := HM.out D HD.out.1 hd0 hd1 hd2 hd3 (Nat.le_trans HD.out.2 (by decide))
      clear hd0 hd1 hd2 hd3
      have G0 := Lib.hid G0
      have G1 := Lib.hid G1
      have G2 := Lib.hid G2
      have G3 := Lib.hid G3
      have K0 := Lib.hid K0
      have K1 := Lib.hid K1
      have K2 := Lib.hid K2
      have K3 := Lib.hid K3
      have HS := Lib.hid hs
      clear hs hk hlt
      obtain ⟨ts, hts⟩ : ∃ ts, ts = [n0, n1, n2, n3] := ⟨_, rfl⟩
      rw [← hts] at HS
      have HTS := Lib.hid hts
      clear hts
      have H00 : Hid (tx (Lib.itoa ((0 : Nat) : Int)) = ⟨#[48]⟩) := Lib.hid (by rw [show ((0 : Nat) : Int) = 0 from rfl, itoa_zero])
      have hPz := hbr.size
      have hP1 := heap_lt HH1.out
      generalize hX : wr.heap.size = P at hPz hP1
      have HX := Lib.hid hX
      have hal := heap_alloc_old (.cells #[s0, s0, s0, s0] 142) HH0.out
      have x0 := (Lib.cell_of_heap hal 0).trans rfl
      have x1 := (Lib.cell_of_heap hal 1).trans rfl
      have x2 := (Lib.cell_of_heap hal 2).trans rfl
      have x3 := (Lib.cell_of_heap hal 3).trans rfl
      clear hal
      go_wp2_with fail
      clear x0 x1 x2 x3
      go_loopw [5, 14, 15, 16, 48] (fun s5 s14 s15 s16 i wr' => ∃ (wq : World) (k g : Nat) (s : Int), wq = wr' ∧ k ≤ 4 ∧ i = .int .i64 (k : Int) ∧ s5 = .string (tx (Lib.itoa (g : Int))) ∧ s14 = .int .i64 s ∧ (g = gl (ts.take k) ∧ s = sl (ts.take k) ∧ Lib.nDigits g ≤ 10000) ∧ Below w.heap.size w wq
        ∧ wq.heap[w.heap.size + 1]? = some (.cells #[.int .i64 0, .int .i64 0, .int .i64 0, .int .i64 0] 22 (0, 0))
        ∧ wq.heap[P]? = some (.cells #[if 0 < k then .string (tx (Lib.itoa n0)) else s0, if 1 < k then .string (tx (Lib.itoa n1)) else s0, if 2 < k then .string (tx (Lib.itoa n2)) else s0, if 3 < k then .string (tx (Lib.itoa n3)) else s0] 142 (0, 0))) (fun _ _ _ _ i _ => (5 - intOf i).toNat)
      case atStart =>
        refine ⟨_, 0, 0, 0, rfl, by omega, rfl, by rw [H00.out], rfl, ⟨rfl, rfl, by rw [Lib.nDigits_small (by decide)]; decide⟩, hbr.alloc hbr.size _, heap_alloc_old _ HH1.out, ?_⟩
        have := World.alloc_heap_new wr (.cells #[s0, s0, s0, s0] 142)
        rw [HX.out] at this
        simpa using this
      case round =>
        clear hbr HH0 HH1 HDV HD H00
        obtain ⟨wr, k, g, s, rfl, hk, rfl, rfl, rfl, hgs, hbr, hh1, hh2⟩ := hrel
        have HH1 := Lib.hid hh1
        have HH2 := Lib.hid hh2
        have HGS := Lib.hid hgs
        clear hh1 hh2 hgs
        by_cases hlt : k < 4
        · rcases (show k = 0 ∨ k = 1 ∨ k = 2 ∨ k = 3 by omega) with rfl | rfl | rfl | rfl
          · have HW := G0
            have HGK := Lib.hid (gl_step (ts := ts) (k := 0) (n := n0) (by rw [HTS.out]; rfl))
            clear hk hlt
            go_wp2_with fail
            obtain ⟨Y, hY, hY2⟩ := HW.out.1 wr (HE.out.below hbr)
            have HY2 := Lib.hid hY2
            clear hY2
            refine hY.mono ?_
            clear hY
            rintro e w1 ⟨rfl, hb1⟩
            have hbw1 := below_trans hbr hb1
            go_wp2_with fail
            obtain ⟨T, hT⟩ := HY2.out w1 (HE.out.below hbw1)
            refine hT.mono ?_
            clear hT
            rintro e w2 ⟨rfl, hb2⟩
            have hbw2 := below_trans hbw1 hb2
            have gp : w2.heap[P]? = some (.cells #[s0, s0, s0, s0] 142 (0, 0)) := ((below_trans hb1 hb2).block _ (heap_lt HH2.out)).trans HH2.out
            have g1 := ((below_trans hb1 hb2).block _ (heap_lt HH1.out)).trans HH1.out
            have fz : ∀ i, w2.frozen? ⟨P, i, none⟩ = false := fun i => Lib.frozen_of_heap gp i
            have c0 := (Lib.cell_of_heap gp 0).trans rfl
            have gs := heap_setCell_same _ _ 0 _ _ (Value.string (tx (Lib.itoa n0))) gp
            have cs0 := (Lib.cell_of_heap gs 0).trans rfl
            have gs1 := (heap_setCell_other w2 ⟨P, 0, none⟩ (w.heap.size + 1) (Value.string (tx (Lib.itoa n0))) (by simp; omega)).trans g1
            have hbs := hbw2.setCell (p := ⟨P, 0, none⟩) (by exact hPz) (Value.string (tx (Lib.itoa n0)))
            have GS := Lib.hid gs
            have GS1 := Lib.hid gs1
            clear gp g1 gs gs1
            go_wp2_with fail
            refine (Gcd_ni g n0 _ (HE.out.below hbs) (Nat.le_trans HGS.out.2.2 (by decide)) (Nat.le_trans HW.out.2 (by decide))).mono ?_
            rintro e w3 ⟨rfl, hb3⟩
            have hbw3 := below_trans hbs hb3
            have gs3 := (hb3.block _ (heap_lt GS.out)).trans GS.out
            have GS3 := Lib.hid gs3
            have GS13 := Lib.hid ((hb3.block _ (heap_lt GS1.out)).trans GS1.out)
            have cs3 := (Lib.cell_of_heap gs3 0).trans rfl
            have HDG := Lib.hid (nDigits_gcd_le HGS.out.2.2 HW.out.2)
            have HF1 := Lib.hid (show Nat.gcd g n0.natAbs = gl (ts.take (0 + 1)) by rw [HGK.out.1, HGS.out.1])
            clear gs3 cs0 c0
            by_cases hs0 : s = 0
            · have HF2 := Lib.hid (show sgn n0 = sl (ts.take (0 + 1)) by rw [HGK.out.2, ← HGS.out.2.1, if_pos hs0])
              go_wp2_with fail
              refine (Sign_itoa _ _).mono ?_
              rintro e w4 ⟨rfl, rfl⟩
              go_wp2
              refine ⟨?_, ?_⟩
              · (repeat apply Exists.intro)
                refine ⟨?_, rfl⟩
                exact ⟨_, 1, _, _, rfl, by decide, rfl, rfl, rfl, ⟨HF1.out, HF2.out, HDG.out⟩, hbw3, GS13.out, GS3.out⟩
              · exact (by decide : (5 - (1 : Int)).toNat < (5 - (0 : Int)).toNat)
            · have HF2 := Lib.hid (show s = sl (ts.take (0 + 1)) by rw [HGK.out.2, ← HGS.out.2.1, if_neg hs0])
              go_wp2_with fail
              refine ⟨?_, ?_⟩
              · (repeat apply Exists.intro)
                refine ⟨?_, rfl⟩
                exact ⟨_, 1, _, _, rfl, by decide, rfl, rfl, rfl, ⟨HF1.out, HF2.out, HDG.out⟩, hbw3, GS13.out, GS3.out⟩
              · exact (by decide : (5 - (1 : Int)).toNat < (5 - (0 : Int)).toNat)
          · have HW := G1
            have HGK := Lib.hid (gl_step (ts := ts) (k := 1) (n := n1) (by rw [HTS.out]; rfl))
            clear hk hlt
            go_wp2_with fail
            obtain ⟨Y, hY, hY2⟩ := HW.out.1 wr (HE.out.below hbr)
            have HY2 := Lib.hid hY2
            clear hY2
            refine hY.mono ?_
            clear hY
            rintro e w1 ⟨rfl, hb1⟩
            have hbw1 := below_trans hbr hb1
            go_wp2_with fail
            obtain ⟨T, hT⟩ := HY2.out w1 (HE.out.below hbw1)
            refine hT.mono ?_
            clear hT
            rintro e w2 ⟨rfl, hb2⟩
            have hbw2 := below_trans hbw1 hb2
            have gp : w2.heap[P]? = some (.cells #[.string (tx (Lib.itoa n0)), s0, s0, s0] 142 (0, 0)) := ((below_trans hb1 hb2).block _ (heap_lt HH2.out)).trans HH2.out
            have g1 := ((below_trans hb1 hb2).block _ (heap_lt HH1.out)).trans HH1.out
            have fz : ∀ i, w2.frozen? ⟨P, i, none⟩ = false := fun i => Lib.frozen_of_heap gp i
            have c0 := (Lib.cell_of_heap gp 1).trans rfl
            have gs := heap_setCell_same _ _ 1 _ _ (Value.string (tx (Lib.itoa n1))) gp
            have cs0 := (Lib.cell_of_heap gs 1).trans rfl
            have gs1 := (heap_setCell_other w2 ⟨P, 1, none⟩ (w.heap.size + 1) (Value.string (tx (Lib.itoa n1))) (by simp; omega)).trans g1
            have hbs := hbw2.setCell (p := ⟨P, 1, none⟩) (by exact hPz) (Value.string (tx (Lib.itoa n1)))
            have GS := Lib.hid gs
            have GS1 := Lib.hid gs1
            clear gp g1 gs gs1
            go_wp2_with fail
            refine (Gcd_ni g n1 _ (HE.out.below hbs) (Nat.le_trans HGS.out.2.2 (by decide)) (Nat.le_trans HW.out.2 (by decide))).mono ?_
            rintro e w3 ⟨rfl, hb3⟩
            have hbw3 := below_trans hbs hb3
            have gs3 := (hb3.block _ (heap_lt GS.out)).trans GS.out
            have GS3 := Lib.hid gs3
            have GS13 := Lib.hid ((hb3.block _ (heap_lt GS1.out)).trans GS1.out)
            have cs3 := (Lib.cell_of_heap gs3 1).trans rfl
            have HDG := Lib.hid (nDigits_gcd_le HGS.out.2.2 HW.out.2)
            have HF1 := Lib.hid (show Nat.gcd g n1.natAbs = gl (ts.take (1 + 1)) by rw [HGK.out.1, HGS.out.1])
            clear gs3 cs0 c0
            by_cases hs0 : s = 0
            · have HF2 := Lib.hid (show sgn n1 = sl (ts.take (1 + 1)) by rw [HGK.out.2, ← HGS.out.2.1, if_pos hs0])
              go_wp2_with fail
              refine (Sign_itoa _ _).mono ?_
              rintro e w4 ⟨rfl, rfl⟩
              go_wp2
              refine ⟨?_, ?_⟩
              · (repeat apply Exists.intro)
                refine ⟨?_, rfl⟩
                exact ⟨_, 2, _, _, rfl, by decide, rfl, rfl, rfl, ⟨HF1.out, HF2.out, HDG.out⟩, hbw3, GS13.out, GS3.out⟩
              · exact (by decide : (5 - (2 : Int)).toNat < (5 - (1 : Int)).toNat)
            · have HF2 := Lib.hid (show s = sl (ts.take (1 + 1)) by rw [HGK.out.2, ← HGS.out.2.1, if_neg hs0])
              go_wp2_with fail
              refine ⟨?_, ?_⟩
              · (repeat apply Exists.intro)
                refine ⟨?_, rfl⟩
                exact ⟨_, 2, _, _, rfl, by decide, rfl, rfl, rfl, ⟨HF1.out, HF2.out, HDG.out⟩, hbw3, GS13.out, GS3.out⟩
              · exact (by decide : (5 - (2 : Int)).toNat < (5 - (1 : Int)).toNat)
          · have HW := G2
            have HGK := Lib.hid (gl_step (ts := ts) (k := 2) (n := n2) (by rw [HTS.out]; rfl))
            clear hk hlt
            go_wp2_with fail
            obtain ⟨Y, hY, hY2⟩ := HW.out.1 wr (HE.out.below hbr)
            have HY2 := Lib.hid hY2
            clear hY2
            refine hY.mono ?_
            clear hY
            rintro e w1 ⟨rfl, hb1⟩
            have hbw1 := below_trans hbr hb1
            go_wp2_with fail
            obtain ⟨T, hT⟩ := HY2.out w1 (HE.out.below hbw1)
            refine hT.mono ?_
            clear hT
            rintro e w2 ⟨rfl, hb2⟩
            have hbw2 := below_trans hbw1 hb2
            have gp : w2.heap[P]? = some (.cells #[.string (tx (Lib.itoa n0)), .string (tx (Lib.itoa n1)), s0, s0] 142 (0, 0)) := ((below_trans hb1 hb2).block _ (heap_lt HH2.out)).trans HH2.out
            have g1 := ((below_trans hb1 hb2).block _ (heap_lt HH1.out)).trans HH1.out
            have fz : ∀ i, w2.frozen? ⟨P, i, none⟩ = false := fun i => Lib.frozen_of_heap gp i
            have c0 := (Lib.cell_of_heap gp 2).trans rfl
            have gs := heap_setCell_same _ _ 2 _ _ (Value.string (tx (Lib.itoa n2))) gp
            have cs0 := (Lib.cell_of_heap gs 2).trans rfl
            have gs1 := (heap_setCell_other w2 ⟨P, 2, none⟩ (w.heap.size + 1) (Value.string (tx (Lib.itoa n2))) (by simp; omega)).trans g1
            have hbs := hbw2.setCell (p := ⟨P, 2, none⟩) (by exact hPz) (Value.string (tx (Lib.itoa n2)))
            have GS := Lib.hid gs
            have GS1 := Lib.hid gs1
            clear gp g1 gs gs1
            go_wp2_with fail
            refine (Gcd_ni g n2 _ (HE.out.below hbs) (Nat.le_trans HGS.out.2.2 (by decide)) (Nat.le_trans HW.out.2 (by decide))).mono ?_
            rintro e w3 ⟨rfl, hb3⟩
            have hbw3 := below_trans hbs hb3
            have gs3 := (hb3.block _ (heap_lt GS.out)).trans GS.out
            have GS3 := Lib.hid gs3
            have GS13 := Lib.hid ((hb3.block _ (heap_lt GS1.out)).trans GS1.out)
            have cs3 := (Lib.cell_of_heap gs3 2).trans rfl
            have HDG := Lib.hid (nDigits_gcd_le HGS.out.2.2 HW.out.2)
            have HF1 := Lib.hid (show Nat.gcd g n2.natAbs = gl (ts.take (2 + 1)) by rw [HGK.out.1, HGS.out.1])
            clear gs3 cs0 c0
            by_cases hs0 : s = 0
            · have HF2 := Lib.hid (show sgn n2 = sl (ts.take (2 + 1)) by rw [HGK.out.2, ← HGS.out.2.1, if_pos hs0])
              go_wp2_with fail
              refine (Sign_itoa _ _).mono ?_
              rintro e w4 ⟨rfl, rfl⟩
              go_wp2
              refine ⟨?_, ?_⟩
              · (repeat apply Exists.intro)
                refine ⟨?_, rfl⟩
                exact ⟨_, 3, _, _, rfl, by decide, rfl, rfl, rfl, ⟨HF1.out, HF2.out, HDG.out⟩, hbw3, GS13.out, GS3.out⟩
              · exact (by decide : (5 - (3 : Int)).toNat < (5 - (2 : Int)).toNat)
            · have HF2 := Lib.hid (show s = sl (ts.take (2 + 1)) by rw [HGK.out.2, ← HGS.out.2.1, if_neg hs0])
              go_wp2_with fail
              refine ⟨?_, ?_⟩
              · (repeat apply Exists.intro)
                refine ⟨?_, rfl⟩
                exact ⟨_, 3, _, _, rfl, by decide, rfl, rfl, rfl, ⟨HF1.out, HF2.out, HDG.out⟩, hbw3, GS13.out, GS3.out⟩
              · exact (by decide : (5 - (3 : Int)).toNat < (5 - (2 : Int)).toNat)
          · have HW := G3
            have HGK := Lib.hid (gl_step (ts := ts) (k := 3) (n := n3) (by rw [HTS.out]; rfl))
            clear hk hlt
            go_wp2_with fail
            obtain ⟨Y, hY, hY2⟩ := HW.out.1 wr (HE.out.below hbr)
            have HY2 := Lib.hid hY2
            clear hY2
            refine hY.mono ?_
            clear hY
            rintro e w1 ⟨rfl, hb1⟩
            have hbw1 := below_trans hbr hb1
            go_wp2_with fail
            obtain ⟨T, hT⟩ := HY2.out w1 (HE.out.below hbw1)
            refine hT.mono ?_
            clear hT
            rintro e w2 ⟨rfl, hb2⟩
            have hbw2 := below_trans hbw1 hb2
            have gp : w2.heap[P]? = some (.cells #[.string (tx (Lib.itoa n0)), .string (tx (Lib.itoa n1)), .string (tx (Lib.itoa n2)), s0] 142 (0, 0)) := ((below_trans hb1 hb2).block _ (heap_lt HH2.out)).trans HH2.out
            have g1 := ((below_trans hb1 hb2).block _ (heap_lt HH1.out)).trans HH1.out
            have fz : ∀ i, w2.frozen? ⟨P, i, none⟩ = false := fun i => Lib.frozen_of_heap gp i
            have c0 := (Lib.cell_of_heap gp 3).trans rfl
            have gs := heap_setCell_same _ _ 3 _ _ (Value.string (tx (Lib.itoa n3))) gp
            have cs0 := (Lib.cell_of_heap gs 3).trans rfl
            have gs1 := (heap_setCell_other w2 ⟨P, 3, none⟩ (w.heap.size + 1) (Value.string (tx (Lib.itoa n3))) (by simp; omega)).trans g1
            have hbs := hbw2.setCell (p := ⟨P, 3, none⟩) (by exact hPz) (Value.string (tx (Lib.itoa n3)))
            have GS := Lib.hid gs
            have GS1 := Lib.hid gs1
            clear gp g1 gs gs1
            go_wp2_with fail
            refine (Gcd_ni g n3 _ (HE.out.below hbs) (Nat.le_trans HGS.out.2.2 (by decide)) (Nat.le_trans HW.out.2 (by decide))).mono ?_
            rintro e w3 ⟨rfl, hb3⟩
            have hbw3 := below_trans hbs hb3
            have gs3 := (hb3.block _ (heap_lt GS.out)).trans GS.out
            have GS3 := Lib.hid gs3
            have GS13 := Lib.hid ((hb3.block _ (heap_lt GS1.out)).trans GS1.out)
            have cs3 := (Lib.cell_of_heap gs3 3).trans rfl
            have HDG := Lib.hid (nDigits_gcd_le HGS.out.2.2 HW.out.2)
            have HF1 := Lib.hid (show Nat.gcd g n3.natAbs = gl (ts.take (3 + 1)) by rw [HGK.out.1, HGS.out.1])
            clear gs3 cs0 c0
            by_cases hs0 : s = 0
            · have HF2 := Lib.hid (show sgn n3 = sl (ts.take (3 + 1)) by rw [HGK.out.2, ← HGS.out.2.1, if_pos hs0])
              go_wp2_with fail
              refine (Sign_itoa _ _).mono ?_
              rintro e w4 ⟨rfl, rfl⟩
              go_wp2
              refine ⟨?_, ?_⟩
              · (repeat apply Exists.intro)
                refine ⟨?_, rfl⟩
                exact ⟨_, 4, _, _, rfl, by decide, rfl, rfl, rfl, ⟨HF1.out, HF2.out, HDG.out⟩, hbw3, GS13.out, GS3.out⟩
              · exact (by decide : (5 - (4 : Int)).toNat < (5 - (3 : Int)).toNat)
            · have HF2 := Lib.hid (show s = sl (ts.take (3 + 1)) by rw [HGK.out.2, ← HGS.out.2.1, if_neg hs0])
              go_wp2_with fail
              refine ⟨?_, ?_⟩
              · (repeat apply Exists.intro)
                refine ⟨?_, rfl⟩
                exact ⟨_, 4, _, _, rfl, by decide, rfl, rfl, rfl, ⟨HF1.out, HF2.out, HDG.out⟩, hbw3, GS13.out, GS3.out⟩
              · exact (by decide : (5 - (4 : Int)).toNat < (5 - (3 : Int)).toNat)
        · obtain rfl : k = 4 := by omega
          have hs := HS.out
          have hgs := HGS.out
          rw [show ts.take 4 = ts by rw [HTS.out]; rfl] at hgs
          rw [← hgs.1, ← hgs.2.1] at hs
          have HG9 := Lib.hid hgs.2.2
          have hk4 := HH2.out
          simp only [show (0 < 4) = True by decide, show (1 < 4) = True by decide, show (2 < 4) = True by decide, show (3 < 4) = True by decide, if_true] at hk4
          have hal := heap_alloc_old (.cells #[.int .i64 0, .int .i64 0, .int .i64 0, .int .i64 0] 22) hk4
          have p0 := (Lib.cell_of_heap hal 0).trans rfl
          have p1 := (Lib.cell_of_heap hal 1).trans rfl
          have p2 := (Lib.cell_of_heap hal 2).trans rfl
          have p3 := (Lib.cell_of_heap hal 3).trans rfl
          clear hal
          clear hgs hk hlt HGS HS HX hX hk4 HH2
          have hQz := hbr.size
          have hQ1 := heap_lt HH1.out
          generalize hX : wr.heap.size = Q at hQz hQ1
          have HX := Lib.hid hX
          by_cases hneg : s < 0
          case' pos =>
            rw [if_pos hneg] at hs
            subst hs
            go_wp2_with fail
            refine (Neg_itoa (g : Int) wr (by rw [Int.natAbs_natCast]; have := HG9.out; omega)).mono ?_
            rintro e wr ⟨rfl, rfl⟩
            go_wp2_with fail
          case' neg =>
            rw [if_neg hneg] at hs
            subst hs
            go_wp2_with fail
          all_goals
            clear hneg p0 p1 p2 p3 hP1 hPz
            go_loopw [18, 19, 20, 21, 22, 23, 24, 78] (fun s18 s19 s20 s21 s22 s23 s24 i wr' => ∃ (wq : World) (k : Nat), wq = wr' ∧ k ≤ 4 ∧ i = .int .i64 (k : Int) ∧ Below w.heap.size w wq
              ∧ wq.heap[w.heap.size + 1]? = some (.cells #[.int .i64 0, .int .i64 0, .int .i64 0, .int .i64 0] 22 (0, 0))
              ∧ wq.heap[Q]? = some (.cells #[if 0 < k then .int .i64 a else .int .i64 0, if 1 < k then .int .i64 b else .int .i64 0, if 2 < k then .int .i64 c else .int .i64 0, if 3 < k then .int .i64 d else .int .i64 0] 22 (0, 0))) (fun _ _ _ _ _ _ _ i _ => (5 - intOf i).toNat)
            case atStart =>
              refine ⟨_, 0, rfl, by omega, rfl, hbr.alloc hbr.size _, heap_alloc_old _ HH1.out, ?_⟩
              have := World.alloc_heap_new wr (.cells #[.int .i64 0, .int .i64 0, .int .i64 0, .int .i64 0] 22)
              rw [HX.out] at this
              simpa using this
            case round =>
              clear hbr HH1
              obtain ⟨wr, k, rfl, hk, rfl, hbr, hh1, hh2⟩ := hrel
              have HH1 := Lib.hid hh1
              have HH2 := Lib.hid hh2
              clear hh1 hh2
              by_cases hlt : k < 4
              · rcases (show k = 0 ∨ k = 1 ∨ k = 2 ∨ k = 3 by omega) with rfl | rfl | rfl | rfl
                · have HW := K0
                  have hx1 : ¬ (1000000 < a) := by have := HW.out.2.2; omega
                  have hx2 : ¬ (a < -1000000) := by have := HW.out.2.1; omega
                  clear hk hlt
                  go_wp2_with fail
                  obtain ⟨R, hR⟩ := HW.out.1 wr (HE.out.below hbr)
                  refine hR.mono ?_
                  clear hR
                  rintro e w1 ⟨rfl, hb1⟩
                  have hbw1 := below_trans hbr hb1
                  go_wp2_with fail
                  refine (Small_ok a w1 (by omega) (by omega)).mono ?_
                  rintro e w2 ⟨rfl, hb2⟩
                  have hbw2 := below_trans hbw1 hb2
                  have gp : w2.heap[Q]? = some (.cells #[.int .i64 0, .int .i64 0, .int .i64 0, .int .i64 0] 22 (0, 0)) := ((below_trans hb1 hb2).block _ (heap_lt HH2.out)).trans HH2.out
                  have g1 := ((below_trans hb1 hb2).block _ (heap_lt HH1.out)).trans HH1.out
                  have fz : ∀ i, w2.frozen? ⟨Q, i, none⟩ = false := fun i => Lib.frozen_of_heap gp i
                  have c0 := (Lib.cell_of_heap gp 0).trans rfl
                  have gs := heap_setCell_same _ _ 0 _ _ (Value.int .i64 a) gp
                  have gs1 := (heap_setCell_other w2 ⟨Q, 0, none⟩ (w.heap.size + 1) (Value.int .i64 a) (by simp; omega)).trans g1
                  have hbs := hbw2.setCell (p := ⟨Q, 0, none⟩) (by exact hQz) (Value.int .i64 a)
                  have GS := Lib.hid gs
                  have GS1 := Lib.hid gs1
                  clear gp g1 gs gs1
                  go_wp2_with fail
                  exact ⟨⟨_, 1, rfl, by decide, rfl, hbs, GS1.out, GS.out⟩, (by decide : (5 - (1 : Int)).toNat < (5 - (0 : Int)).toNat)⟩
                · have HW := K1
                  have hx1 : ¬ (1000000 < b) := by have := HW.out.2.2; omega
                  have hx2 : ¬ (b < -1000000) := by have := HW.out.2.1; omega
                  clear hk hlt
                  go_wp2_with fail
                  obtain ⟨R, hR⟩ := HW.out.1 wr (HE.out.below hbr)
                  refine hR.mono ?_
                  clear hR
                  rintro e w1 ⟨rfl, hb1⟩
                  have hbw1 := below_trans hbr hb1
                  go_wp2_with fail
                  refine (Small_ok b w1 (by omega) (by omega)).mono ?_
                  rintro e w2 ⟨rfl, hb2⟩
                  have hbw2 := below_trans hbw1 hb2
                  have gp : w2.heap[Q]? = some (.cells #[.int .i64 a, .int .i64 0, .int .i64 0, .int .i64 0] 22 (0, 0)) := ((below_trans hb1 hb2).block _ (heap_lt HH2.out)).trans HH2.out
                  have g1 := ((below_trans hb1 hb2).block _ (heap_lt HH1.out)).trans HH1.out
                  have fz : ∀ i, w2.frozen? ⟨Q, i, none⟩ = false := fun i => Lib.frozen_of_heap gp i
                  have c0 := (Lib.cell_of_heap gp 1).trans rfl
                  have gs := heap_setCell_same _ _ 1 _ _ (Value.int .i64 b) gp
                  have gs1 := (heap_setCell_other w2 ⟨Q, 1, none⟩ (w.heap.size + 1) (Value.int .i64 b) (by simp; omega)).trans g1
                  have hbs := hbw2.setCell (p := ⟨Q, 1, none⟩) (by exact hQz) (Value.int .i64 b)
                  have GS := Lib.hid gs
                  have GS1 := Lib.hid gs1
                  clear gp g1 gs gs1
                  go_wp2_with fail
                  exact ⟨⟨_, 2, rfl, by decide, rfl, hbs, GS1.out, GS.out⟩, (by decide : (5 - (2 : Int)).toNat < (5 - (1 : Int)).toNat)⟩
                · have HW := K2
                  have hx1 : ¬ (1000000 < c) := by have := HW.out.2.2; omega
                  have hx2 : ¬ (c < -1000000) := by have := HW.out.2.1; omega
                  clear hk hlt
                  go_wp2_with fail
                  obtain ⟨R, hR⟩ := HW.out.1 wr (HE.out.below hbr)
                  refine hR.mono ?_
                  clear hR
                  rintro e w1 ⟨rfl, hb1⟩
                  have hbw1 := below_trans hbr hb1
                  go_wp2_with fail
                  refine (Small_ok c w1 (by omega) (by omega)).mono ?_
                  rintro e w2 ⟨rfl, hb2⟩
                  have hbw2 := below_trans hbw1 hb2
                  have gp : w2.heap[Q]? = some (.cells #[.int .i64 a, .int .i64 b, .int .i64 0, .int .i64 0] 22 (0, 0)) := ((below_trans hb1 hb2).block _ (heap_lt HH2.out)).trans HH2.out
                  have g1 := ((below_trans hb1 hb2).block _ (heap_lt HH1.out)).trans HH1.out
                  have fz : ∀ i, w2.frozen? ⟨Q, i, none⟩ = false := fun i => Lib.frozen_of_heap gp i
                  have c0 := (Lib.cell_of_heap gp 2).trans rfl
                  have gs := heap_setCell_same _ _ 2 _ _ (Value.int .i64 c) gp
                  have gs1 := (heap_setCell_other w2 ⟨Q, 2, none⟩ (w.heap.size + 1) (Value.int .i64 c) (by simp; omega)).trans g1
                  have hbs := hbw2.setCell (p := ⟨Q, 2, none⟩) (by exact hQz) (Value.int .i64 c)
                  have GS := Lib.hid gs
                  have GS1 := Lib.hid gs1
                  clear gp g1 gs gs1
                  go_wp2_with fail
                  exact ⟨⟨_, 3, rfl, by decide, rfl, hbs, GS1.out, GS.out⟩, (by decide : (5 - (3 : Int)).toNat < (5 - (2 : Int)).toNat)⟩
                · have HW := K3
                  have hx1 : ¬ (1000000 < d) := by have := HW.out.2.2; omega
                  have hx2 : ¬ (d < -1000000) := by have := HW.out.2.1; omega
                  clear hk hlt
                  go_wp2_with fail
                  obtain ⟨R, hR⟩ := HW.out.1 wr (HE.out.below hbr)
                  refine hR.mono ?_
                  clear hR
                  rintro e w1 ⟨rfl, hb1⟩
                  have hbw1 := below_trans hbr hb1
                  go_wp2_with fail
                  refine (Small_ok d w1 (by omega) (by omega)).mono ?_
                  rintro e w2 ⟨rfl, hb2⟩
                  have hbw2 := below_trans hbw1 hb2
                  have gp : w2.heap[Q]? = some (.cells #[.int .i64 a, .int .i64 b, .int .i64 c, .int .i64 0] 22 (0, 0)) := ((below_trans hb1 hb2).block _ (heap_lt HH2.out)).trans HH2.out
                  have g1 := ((below_trans hb1 hb2).block _ (heap_lt HH1.out)).trans HH1.out
                  have fz : ∀ i, w2.frozen? ⟨Q, i, none⟩ = false := fun i => Lib.frozen_of_heap gp i
                  have c0 := (Lib.cell_of_heap gp 3).trans rfl
                  have gs := heap_setCell_same _ _ 3 _ _ (Value.int .i64 d) gp
                  have gs1 := (heap_setCell_other w2 ⟨Q, 3, none⟩ (w.heap.size + 1) (Value.int .i64 d) (by simp; omega)).trans g1
                  have hbs := hbw2.setCell (p := ⟨Q, 3, none⟩) (by exact hQz) (Value.int .i64 d)
                  have GS := Lib.hid gs
                  have GS1 := Lib.hid gs1
                  clear gp g1 gs gs1
                  go_wp2_with fail
                  exact ⟨⟨_, 4, rfl, by decide, rfl, hbs, GS1.out, GS.out⟩, (by decide : (5 - (4 : Int)).toNat < (5 - (3 : Int)).toNat)⟩
              · obtain rfl : k = 4 := by omega
                have hk4 := HH2.out
                simp only [show (0 < 4) = True by decide, show (1 < 4) = True by decide, show (2 < 4) = True by decide, show (3 < 4) = True by decide, if_true] at hk4
                have p0 := (Lib.cell_of_heap hk4 0).trans rfl
                have p1 := (Lib.cell_of_heap hk4 1).trans rfl
                have p2 := (Lib.cell_of_heap hk4 2).trans rfl
                have p3 := (Lib.cell_of_heap hk4 3).trans rfl
                have d0 := (Lib.cell_of_heap HH1.out 0).trans rfl
                have d1 := (Lib.cell_of_heap HH1.out 1).trans rfl
                have d2 := (Lib.cell_of_heap HH1.out 2).trans rfl
                have d3 := (Lib.cell_of_heap HH1.out 3).trans rfl
                have fz : ∀ i, wr.frozen? ⟨w.heap.size + 1, i, none⟩ = false := fun i => Lib.frozen_of_heap HH1.out i
                clear hk4 hlt hk
                go_wp2_with fail
                have h1 := heap_setCell_same _ _ 0 _ _ (.int .i64 a) HH1.out
                have h2 := heap_setCell_same _ _ 1 _ _ (.int .i64 b) h1
                have h3 := heap_setCell_same _ _ 2 _ _ (.int .i64 c) h2
                have h4 := heap_setCell_same _ _ 3 _ _ (.int .i64 d) h3
                exact bodyPost_ret (v := .tuple #[qv a b c d, .int .i64 0]) (by simp [results, Tryz.results60, go_sem, Lib.cell_of_heap h4]) rfl ⟨rfl, (((hbr.setCell (by simp) _).setCell (by simp) _).setCell (by simp) _).setCell (by simp) _⟩
end Go.Proofs.Kl
/- rotation: Untilt. -/
namespace Go.Proofs.Kl
open Go.RowKit Go.Shelf
abbrev K2c (B : Nat) (X Y : ByteArray) (w' : World) : Prop := w'.cell? ⟨B, 0, none⟩ = some (.string X) ∧ w'.cell? ⟨B, 1, none⟩ = some (.string Y)
theorem K2c_below {B : Nat} {X Y : ByteArray} {W w' : World} (hb : Below W.heap.size W w') (h : K2c B X Y W) : K2c B X Y w' := ⟨cell_below hb h.1, cell_below hb h.2⟩
theorem K2c_set {B B2 : Nat} {X Y : ByteArray} {W : World} (h1 : B2 ≠ B) (i : Nat) (u : Value) (h : K2c B X Y W) : K2c B X Y (W.setCell ⟨B2, i, none⟩ u) := by
  have n1 : ∀ j, (⟨B2, i, none⟩ : Addr) ≠ ⟨B, j, none⟩ := fun j e => h1 (congrArg Addr.block e)
  exact ⟨(World.cell?_setCell_other (w := W) (v := u) (h := n1 _)).trans h.1, (World.cell?_setCell_other (w := W) (v := u) (h := n1 _)).trans h.2⟩
set_option maxHeartbeats 2000000 in
set_option maxRecDepth 100000 in
theorem Untilt_rt (p q r s C : Rat) (a b c d : Int) (w : World) (hE : Env w) (hpr : Prim4 a b c d) (hC : C ≠ 0) (e0 : s + r = C * a) (e1 : q = C * b) (e2 : -p = C * c) (e3 : (0 : Rat) = C * d)
    (hp : Rg 200 p) (hq : Rg 200 q) (hr : Rg 200 r) (hs0 : 0 ≤ s) (hs : Rg 200 s) (hss : s * s = p * p + q * q + r * r) (hn : ¬ (p = 0 ∧ q = 0 ∧ r = 0)) (hw : s + r ≠ 0)
    (ha : -1000000 ≤ a ∧ a ≤ 1000000) (hb : -1000000 ≤ b ∧ b ≤ 1000000) (hc : -1000000 ≤ c ∧ c ≤ 1000000) (hd : -1000000 ≤ d ∧ d ≤ 1000000) :
    Calls Tryz.prog 21 #[v3 p q r] w (Ret (.tuple #[qv a b c d, .int .i64 0]) w) := by
  have HV := Lib.hid (fun w' hw => VCheck_any (rt p) (rt q) (rt r) w' hw (Rg_len hp (by decide)) (Rg_len hq (by decide)) (Rg_len hr (by decide)))
  rw [numsR3_ok (Rok_rt hp) (Rok_rt hq) (Rok_rt hr)] at HV
  have HL := Lib.hid (fun w' hw => Length_rt p q r s w' hw hp hq hr hs0 hs hss)
  have HA := Lib.hid (fun w' hw => RAdd_rt s r w' hw (hs.mono (by decide)) (hr.mono (by decide)))
  have HN : Hid (∀ w', Calls Tryz.prog 61 #[.string (tx (rt p))] w' (Ret (.string (tx (rt (-p)))) w')) := Lib.hid (fun w' => (RNeg_rt p w' (hp.mono (by decide))).mono (by rintro e w1 ⟨rfl, rfl⟩; exact ⟨rfl, Below.refl _ _⟩))
  have z0 : Rg 1000 (0 : Rat) := (show Rg 1 (0 : Rat) from Rg_int (n := 0) (by rw [show Int.natAbs 0 = 0 from rfl, Lib.nDigits_small (by decide)]; decide)).mono (by decide)
  have HW := Lib.hid (fun w' hw => whole_ok (s + r) q (-p) 0 C a b c d w' hw hpr hC e0 e1 e2 e3 ((hs.add hr).mono (by decide)) (hq.mono (by decide)) (hp.neg.mono (by decide)) z0 ha hb hc hd)
  have hS := rt_beq0 hw
  have hcase : ((rt p == [48]) = false) ∨ ((rt p == [48]) = true ∧ (rt q == [48]) = false) ∨ ((rt p == [48]) = true ∧ (rt q == [48]) = true ∧ (rt r == [48]) = false) := by
    by_cases h1 : p = 0
    · by_cases h2 : q = 0
      · exact .inr (.inr ⟨beq_iff_eq.2 (rt_eq_zero.2 h1), beq_iff_eq.2 (rt_eq_zero.2 h2), rt_beq0 (fun h3 => hn ⟨h1, h2, h3⟩)⟩)
      · exact .inr (.inl ⟨beq_iff_eq.2 (rt_eq_zero.2 h1), rt_beq0 h2⟩)
    · exact .inl (rt_beq0 h1)
  have HE := Lib.hid hE
  clear hpr hC e0 e1 e2 e3 hp hq hr hs0 hs hss hn hw ha hb hc hd hE z0
  simp only [v3, sv, rt_zero] at HL HA HW ⊢
  obtain ⟨X, hX⟩ : ∃ X, X = rt p := ⟨_, rfl⟩
  obtain ⟨Y, hY⟩ : ∃ X, X = rt q := ⟨_, rfl⟩
  obtain ⟨Z, hZ⟩ : ∃ X, X = rt r := ⟨_, rfl⟩
  obtain ⟨L, hL⟩ : ∃ X, X = tx (rt s) := ⟨_, rfl⟩
  obtain ⟨S, hSS⟩ : ∃ X, X = rt (s + r) := ⟨_, rfl⟩
  obtain ⟨M, hM⟩ : ∃ X, X = tx (rt (-p)) := ⟨_, rfl⟩
  rw [← hX, ← hY, ← hZ] at HV
  rw [← hX, ← hY, ← hZ, ← hL] at HL
  rw [← hL, ← hZ, ← hSS] at HA
  rw [← hX, ← hM] at HN
  rw [← hSS, ← hY, ← hM] at HW
  rw [← hX, ← hY, ← hZ] at hcase ⊢
  rw [← hSS] at hS
  clear hX hY hZ hL hSS hM
  have hb0 := ((Below.refl w.heap.size w).alloc (Nat.le_refl _) (.cells #[.string (tx X), .string (tx Y), .string (tx Z)] 41)).alloc (by simp) (.cells #[.int .i64 0, .int .i64 0, .int .i64 0, .int .i64 0] 22)
  have hk0 := heap_alloc_old (.cells #[.int .i64 0, .int .i64 0, .int .i64 0, .int .i64 0] 22) (World.alloc_heap_new w (.cells #[.string (tx X), .string (tx Y), .string (tx Z)] 41))
  have hk1 := World.alloc_heap_new (w.alloc (.cells #[.string (tx X), .string (tx Y), .string (tx Z)] 41)) (.cells #[.int .i64 0, .int .i64 0, .int .i64 0, .int .i64 0] 22)
  have hsz : (w.alloc (.cells #[.string (tx X), .string (tx Y), .string (tx Z)] 41)).heap.size = w.heap.size + 1 := by simp
  rw [hsz] at hk1
  have K0 := Lib.hid hk0
  have K1 := Lib.hid hk1
  clear hk0 hk1 hsz
  have hne : w.heap.size + 1 ≠ w.heap.size := by omega
  have HNE := Lib.hid hne
  clear hne
  go_enter Tryz.func21, Tryz.ntmps21
  go_wp2_with fail
  refine (HV.out _ (HE.out.below hb0)).mono ?_
  rintro e w1 ⟨rfl, hb1⟩
  have hbw1 := below_trans hb0 hb1
  have k0 := (hb1.block _ (heap_lt K0.out)).trans K0.out
  have k1 := (hb1.block _ (heap_lt K1.out)).trans K1.out
  have c0 := (Lib.cell_of_heap k0 0).trans rfl
  have c1 := (Lib.cell_of_heap k0 1).trans rfl
  have c2 := (Lib.cell_of_heap k0 2).trans rfl
  have K0b := Lib.hid k0
  have K1b := Lib.hid k1
  clear k0 k1 K0 K1
  rcases hcase with h1 | ⟨h0, h1⟩ | ⟨h0, h00, h1⟩
  all_goals
    go_wp2_with fail
    refine (HL.out _ (HE.out.below hbw1)).mono ?_
    rintro e w2 ⟨rfl, hb2⟩
    have hbw2 := below_trans hbw1 hb2
    have k0 := (hb2.block _ (heap_lt K0b.out)).trans K0b.out
    have d2 := (Lib.cell_of_heap k0 2).trans rfl
    clear c0 c1 c2 h1
    go_wp2_with fail
    refine (HA.out _ (HE.out.below hbw2)).mono ?_
    rintro e w3 ⟨rfl, hb3⟩
    have hbw3 := below_trans hbw2 hb3
    have k3 := (hb3.block _ (heap_lt k0)).trans k0
    have d0 := (Lib.cell_of_heap k3 0).trans rfl
    have d1 := (Lib.cell_of_heap k3 1).trans rfl
    have K3 := Lib.hid (show K2c w.heap.size (tx X) (tx Y) w3 from ⟨d0, d1⟩)
    have K1c := Lib.hid ((hb3.block _ (Nat.lt_of_lt_of_le (heap_lt K1b.out) hb2.size)).trans ((hb2.block _ (heap_lt K1b.out)).trans K1b.out))
    clear k0 k3 d2
    go_upto_region 12 with fail
    generalize tx X = XX at *
    generalize tx Y = YY at *
    generalize tx Z = ZZ at *
    generalize tx S = SS at *
    have K3d := Lib.hid (show K2c w.heap.size XX YY w3.drew from K3.out)
    go_region_held3 (fun w' => w'.cell? ⟨w.heap.size, 0, none⟩ = some (Value.string XX) ∧ w'.cell? ⟨w.heap.size, 1, none⟩ = some (Value.string YY))
      (first
        | with_reducible exact K3.out
        | with_reducible exact K3d.out
        | with_reducible exact K2c_below hb6 K3d.out
        | with_reducible exact K2c_below hb7 (K2c_below hb6 K3d.out)
        | with_reducible exact K2c_set HNE.out 3 _ (K2c_set HNE.out 2 _ (K2c_set HNE.out 1 _ (K2c_set HNE.out 0 _ (K2c_below hb7 (K2c_below hb6 K3d.out))))))
      (first
        | (go_at_call 60; refine (HW.out w6 (HE.out.below (below_trans hbw3.drew hb6))).mono ?_; rintro e w7 ⟨rfl, hb7⟩; have k8 := (hb7.block _ (Nat.lt_of_lt_of_le (heap_lt K1c.out) hb6.size)).trans ((hb6.block _ (heap_lt K1c.out)).trans K1c.out); have HK8 := Lib.hid k8; have fz : ∀ i, w7.frozen? ⟨w.heap.size + 1, i, none⟩ = false := fun i => Lib.frozen_of_heap k8 i; have x0 := (Lib.cell_of_heap k8 0).trans rfl; have x1 := (Lib.cell_of_heap k8 1).trans rfl; have x2 := (Lib.cell_of_heap k8 2).trans rfl; have x3 := (Lib.cell_of_heap k8 3).trans rfl; clear k8)
        | (go_at_call 61; refine (HN.out _).mono ?_; rintro e w6 ⟨rfl, hb6⟩))
    go_wp2
    have h1 := heap_setCell_same _ _ 0 _ _ (.int .i64 a) HK8.out
    have h2 := heap_setCell_same _ _ 1 _ _ (.int .i64 b) h1
    have h3 := heap_setCell_same _ _ 2 _ _ (.int .i64 c) h2
    have h4 := heap_setCell_same _ _ 3 _ _ (.int .i64 d) h3
    have hbf := below_trans (below_trans hbw3.drew hb6) hb7
    exact bodyPost_ret (v := .tuple #[qv a b c d, .int .i64 0]) (by simp [results, Tryz.results21, go_sem, Lib.cell_of_heap h4]) rfl ⟨rfl, (((hbf.setCell (by simp) _).setCell (by simp) _).setCell (by simp) _).setCell (by simp) _⟩
end Go.Proofs.Kl
/- known() of the statements about rotations. -/
namespace Go.Proofs.Kl
open Go.RowKit Go.Shelf
theorem short9 {n : Int} (h : n.natAbs < 100000000) : (Lib.itoa n).length ≤ 9 := by
  have h1 := itoa_len n
  have h2 := (nDigits_le (u := n.natAbs) (k := 8) (by decide)).2 h
  omega
theorem Rg_small {n : Int} (h : n.natAbs < 100000000) : Rg 200 (n : Rat) :=
  (Rg_int (k := 8) ((nDigits_le (k := 8) (by decide)).2 h)).mono (by decide)
theorem Rg_quo {q : Rat} (h1 : q.num.natAbs < 100000000) (h2 : q.den < 100000000) : Rg 200 q :=
  (show Rg 8 q from ⟨(nDigits_le (k := 8) (by decide)).2 h1, (nDigits_le (k := 8) (by decide)).2 h2⟩).mono (by decide)
theorem rt35 : rt (mkRat 3 5) = [51, 47, 53] := by
  rw [rt_part (by decide +kernel), show (mkRat 3 5).num = 3 by decide +kernel, show (mkRat 3 5).den = 5 by decide +kernel, itoa_nonneg (by decide), decDigits_lt (by decide), decDigits_lt (by decide)]
  rfl
theorem rt45 : rt (mkRat 4 5) = [52, 47, 53] := by
  rw [rt_part (by decide +kernel), show (mkRat 4 5).num = 4 by decide +kernel, show (mkRat 4 5).den = 5 by decide +kernel, itoa_nonneg (by decide), decDigits_lt (by decide), decDigits_lt (by decide)]
  rfl
theorem Rg35 : Rg 200 (mkRat 3 5) := Rg_quo (by decide +kernel) (by decide +kernel)
theorem Rg45 : Rg 200 (mkRat 4 5) := Rg_quo (by decide +kernel) (by decide +kernel)
theorem Rg00 : Rg 200 (0 : Rat) := Rg_quo (by decide +kernel) (by decide +kernel)
theorem known_resV : resV (tqx 2 0 0 1 ((1 : Int) : Rat) ((0 : Int) : Rat) ((0 : Int) : Rat)) (tqy 2 0 0 1 ((1 : Int) : Rat) ((0 : Int) : Rat) ((0 : Int) : Rat)) (tqz 2 0 0 1 ((1 : Int) : Rat) ((0 : Int) : Rat) ((0 : Int) : Rat))
    = .tuple #[.agg #[.string ⟨#[51, 47, 53]⟩, .string ⟨#[52, 47, 53]⟩, .string ⟨#[48]⟩], .int .i64 0] := by
  rw [show tqx 2 0 0 1 ((1 : Int) : Rat) ((0 : Int) : Rat) ((0 : Int) : Rat) = mkRat 3 5 by decide +kernel,
    show tqy 2 0 0 1 ((1 : Int) : Rat) ((0 : Int) : Rat) ((0 : Int) : Rat) = mkRat 4 5 by decide +kernel,
    show tqz 2 0 0 1 ((1 : Int) : Rat) ((0 : Int) : Rat) ((0 : Int) : Rat) = 0 by decide +kernel]
  unfold resV
  rw [if_pos (numsR3_ok (Rok_rt Rg35) (Rok_rt Rg45) (Rok_rt Rg00))]
  simp only [v3, rt35, rt45, rt_zero]
theorem known_eq (W : World) : (Op.equalIn 10000 41 (.agg #[.string ⟨#[51, 47, 53]⟩, .string ⟨#[52, 47, 53]⟩, .string ⟨#[48]⟩]) (.agg #[.string ⟨#[51, 47, 53]⟩, .string ⟨#[52, 47, 53]⟩, .string ⟨#[48]⟩])).run Tryz.prog W = .ok true W := by
  kernel_rfl
set_option maxHeartbeats 2000000 in
set_option maxRecDepth 100000 in
theorem known_any (w : World) (hE : Env w) : Calls Tryz.prog 11 #[] w (Ret (.bool true) w) := by
  have HO1 := Lib.hid (fun w' hw => R5Of_short 1 0 0 w' hw (short9 (by decide)) (short9 (by decide)) (short9 (by decide)))
  have HO2 := Lib.hid (fun w' hw => R5Of_short 0 (-3) 4 w' hw (short9 (by decide)) (short9 (by decide)) (short9 (by decide)))
  have HA := Lib.hid (fun w' hw => Apply_rt 2 0 0 1 ((1 : Int) : Rat) ((0 : Int) : Rat) ((0 : Int) : Rat) w' hw (by decide) (Rg_small (by decide)) (Rg_small (by decide)) (Rg_small (by decide)))
  rw [known_resV] at HA
  have HO := Lib.hid (fun w' => Order_any 1 0 0 1 w' (by decide))
  rw [show qord (1 * 1) (0 * 0 + 0 * 0 + 1 * 1) = 4 by decide] at HO
  have HU := Lib.hid (fun w' hw => Untilt_rt ((0 : Int) : Rat) ((-3 : Int) : Rat) ((4 : Int) : Rat) 5 3 3 (-1) 0 0 w' hw ⟨by decide +kernel, by decide +kernel⟩ (by decide +kernel) (by decide +kernel) (by decide +kernel) (by decide +kernel) (by decide +kernel)
    (Rg_small (by decide)) (Rg_small (by decide)) (Rg_small (by decide)) (by decide +kernel) (Rg_quo (by decide +kernel) (by decide +kernel)) (by decide +kernel) (by decide +kernel) (by decide +kernel) (by decide) (by decide) (by decide) (by decide))
  have HC := Lib.hid (fun w' hw => Cosine_any 2 0 0 1 w' hw)
  rw [if_pos (by decide), show qcos 2 0 0 1 = mkRat 3 5 by decide +kernel] at HC
  simp only [sv, rt35] at HC
  have HE := Lib.hid hE
  clear hE
  simp only [v3] at HO1 HO2 HA HU
  obtain ⟨X, hX⟩ : ∃ X, X = tx (rt ((1 : Int) : Rat)) := ⟨_, rfl⟩
  obtain ⟨Y, hY⟩ : ∃ X, X = tx (rt ((0 : Int) : Rat)) := ⟨_, rfl⟩
  obtain ⟨Z, hZ⟩ : ∃ X, X = tx (rt ((-3 : Int) : Rat)) := ⟨_, rfl⟩
  obtain ⟨U, hU⟩ : ∃ X, X = tx (rt ((4 : Int) : Rat)) := ⟨_, rfl⟩
  rw [← hX, ← hY] at HO1 HA
  rw [← hY, ← hZ, ← hU] at HO2 HU
  clear hX hY hZ hU
  have HEQ := known_eq
  go_enter Tryz.func11, Tryz.ntmps11
  go_wp2_with fail
  refine (HO1.out _ HE.out).mono ?_
  rintro e w1 ⟨rfl, hb1⟩
  go_wp2_with fail
  refine (HA.out _ (HE.out.below hb1)).mono ?_
  rintro e w2 ⟨rfl, hb2⟩
  have hbw2 := below_trans hb1 hb2
  have hbw3 := hbw2.alloc hbw2.size (.cells #[.string ⟨#[51, 47, 53]⟩, .string ⟨#[52, 47, 53]⟩, .string ⟨#[48]⟩] 41)
  have hk := World.alloc_heap_new w2 (.cells #[.string ⟨#[51, 47, 53]⟩, .string ⟨#[52, 47, 53]⟩, .string ⟨#[48]⟩] 41)
  have HK := Lib.hid hk
  clear hk
  go_wp2_with fail
  refine (HO.out _).mono ?_
  rintro e w3 ⟨rfl, hb3⟩
  have hbw3 := below_trans hbw3 hb3
  go_wp2_with fail
  refine (HO2.out _ (HE.out.below hbw3)).mono ?_
  rintro e w4 ⟨rfl, hb4⟩
  have hbw4 := below_trans hbw3 hb4
  go_wp2_with fail
  refine (HU.out _ (HE.out.below hbw4)).mono ?_
  rintro e w5 ⟨rfl, hb5⟩
  have hbw5 := below_trans hbw4 hb5
  have hbw6 := hbw5.alloc hbw5.size (.cells #[.int .i64 3, .int .i64 (-1), .int .i64 0, .int .i64 0] 22)
  have hk := World.alloc_heap_new w5 (.cells #[.int .i64 3, .int .i64 (-1), .int .i64 0, .int .i64 0] 22)
  have hk0 := ((below_trans (below_trans hb3 hb4) hb5).block _ (heap_lt HK.out)).trans HK.out
  have hk0 := heap_alloc_old (.cells #[.int .i64 3, .int .i64 (-1), .int .i64 0, .int .i64 0] 22) hk0
  have HK5 := Lib.hid hk
  have HK0 := Lib.hid hk0
  clear hk hk0
  go_wp2_with fail
  refine (HC.out _ (HE.out.below hbw6)).mono ?_
  rintro e w7 ⟨rfl, hb7⟩
  have hbw7 := below_trans hbw6 hb7
  have hk0 := (hb7.block _ (heap_lt HK0.out)).trans HK0.out
  have hk5 := (hb7.block _ (heap_lt HK5.out)).trans HK5.out
  have x0 := (Lib.cell_of_heap hk0 0).trans rfl
  have x1 := (Lib.cell_of_heap hk0 1).trans rfl
  have x2 := (Lib.cell_of_heap hk0 2).trans rfl
  have y0 := (Lib.cell_of_heap hk5 0).trans rfl
  have y1 := (Lib.cell_of_heap hk5 1).trans rfl
  have y2 := (Lib.cell_of_heap hk5 2).trans rfl
  have y3 := (Lib.cell_of_heap hk5 3).trans rfl
  clear hk0 hk5
  go_wp2
  go_ret
  exact ⟨rfl, hbw7⟩
end Go.Proofs.Kl
/- RotationOrders: the body returns true. -/
namespace Go.Proofs.Kl
open Go.RowKit Go.Shelf
/-- what the statement's switch finds. -/
def wantO (x s : Int) : Int := if x = 4 * s then 1 else if x = 0 then 2 else if x = s then 3 else if x = 2 * s then 4 else if x = 3 * s then 6 else 0
theorem want_qord {W R : Int} : wantO (4 * W) (W + R) = qord W R := by
  unfold wantO qord
  by_cases h1 : R = 0
  · rw [if_pos (by omega), if_pos h1]
  rw [if_neg (by omega), if_neg h1]
  by_cases h2 : W = 0
  · rw [if_pos (by omega), if_pos h2]
  rw [if_neg (by omega), if_neg h2]
  by_cases h3 : R = 3 * W
  · rw [if_pos (by omega), if_pos h3]
  rw [if_neg (by omega), if_neg h3]
  by_cases h4 : R = W
  · rw [if_pos (by omega), if_pos h4]
  rw [if_neg (by omega), if_neg h4]
  by_cases h5 : W = 3 * R
  · rw [if_pos (by omega), if_pos h5]
  rw [if_neg (by omega), if_neg h5]
theorem four_sq (a : Int) : 4 * a * a = 4 * (a * a) := Int.mul_assoc _ _ _
theorem box4 (w : World) (a b c d : Int) : (w.alloc (.cells #[.int .i64 a, .int .i64 b, .int .i64 c, .int .i64 d] 22)).heap[w.heap.size]? = some (.cells #[.int .i64 a, .int .i64 b, .int .i64 c, .int .i64 d] 22 (0, 0)) := World.alloc_heap_new w _
set_option maxHeartbeats 2000000 in
set_option maxRecDepth 100000 in
theorem Orders_bad (a b c d : Int) (w : World) (hE : Env w) (h : qchk a b c d ≠ 0) : Calls Tryz.prog 3 #[qv a b c d] w (Ret (.bool true) w) := by
  obtain ⟨R, hR⟩ : ∃ R, R = qchk a b c d := ⟨_, rfl⟩
  have HQ := Lib.hid (fun w' => Lcheck_any a b c d w')
  rw [← hR] at h HQ
  clear hR
  have HE := Lib.hid hE
  clear hE
  have hb0 := (Below.refl w.heap.size w).alloc (Nat.le_refl _) (.cells #[.int .i64 a, .int .i64 b, .int .i64 c, .int .i64 d] 22)
  have HK := Lib.hid (box4 w a b c d)
  go_enter Tryz.func3, Tryz.ntmps3
  go_wp2_with fail
  refine (known_any _ (HE.out.below hb0)).mono ?_
  rintro e w1 ⟨rfl, hb1⟩
  have hbw1 := below_trans hb0 hb1
  have hk := (hb1.block _ (heap_lt HK.out)).trans HK.out
  have x0 := (Lib.cell_of_heap hk 0).trans rfl
  have x1 := (Lib.cell_of_heap hk 1).trans rfl
  have x2 := (Lib.cell_of_heap hk 2).trans rfl
  have x3 := (Lib.cell_of_heap hk 3).trans rfl
  clear hk
  go_wp2_with fail
  refine (HQ.out _).mono ?_
  rintro e w2 ⟨rfl, hb2⟩
  have hbw2 := below_trans hbw1 hb2
  go_wp2_with fail
  refine (known_any _ (HE.out.below hbw2)).mono ?_
  rintro e w3 ⟨rfl, hb3⟩
  have hbw3 := below_trans hbw2 hb3
  go_wp2
  go_ret
  exact ⟨rfl, hbw3⟩
set_option maxHeartbeats 2000000 in
set_option maxRecDepth 100000 in
theorem Orders_ok (a b c d : Int) (w : World) (hE : Env w) (h : qchk a b c d = 0) : Calls Tryz.prog 3 #[qv a b c d] w (Ret (.bool true) w) := by
  have HQ := Lib.hid (fun w' => Lcheck_any a b c d w')
  rw [h] at HQ
  have HO := Lib.hid (fun w' => Order_any a b c d w' h)
  have hwq := want_qord (W := a * a) (R := b * b + c * c + d * d)
  rw [← four_sq, show a * a + (b * b + c * c + d * d) = a * a + b * b + c * c + d * d by omega] at hwq
  rw [← hwq] at HO
  obtain ⟨k1, k2, k3, k4, -⟩ := qchk_zero h
  have s1 := sq_bound k1
  have s2 := sq_bound k2
  have s3 := sq_bound k3
  have s4 := sq_bound k4
  have s5 : 0 ≤ 4 * a * a ∧ 4 * a * a ≤ 4000000000000 := by rw [four_sq]; omega
  have HE := Lib.hid hE
  clear hE h hwq k2 k3 k4
  have hb0 := (Below.refl w.heap.size w).alloc (Nat.le_refl _) (.cells #[.int .i64 a, .int .i64 b, .int .i64 c, .int .i64 d] 22)
  have HK := Lib.hid (box4 w a b c d)
  go_enter Tryz.func3, Tryz.ntmps3
  go_wp2_with fail
  refine (known_any _ (HE.out.below hb0)).mono ?_
  rintro e w1 ⟨rfl, hb1⟩
  have hbw1 := below_trans hb0 hb1
  have hk := (hb1.block _ (heap_lt HK.out)).trans HK.out
  have HK := Lib.hid hk
  have x0 := (Lib.cell_of_heap hk 0).trans rfl
  have x1 := (Lib.cell_of_heap hk 1).trans rfl
  have x2 := (Lib.cell_of_heap hk 2).trans rfl
  have x3 := (Lib.cell_of_heap hk 3).trans rfl
  clear hk
  go_wp2_with fail
  refine (HQ.out _).mono ?_
  rintro e w2 ⟨rfl, hb2⟩
  have hbw2 := below_trans hbw1 hb2
  have hk := (hb2.block _ (heap_lt HK.out)).trans HK.out
  have HK := Lib.hid hk
  have y0 := (Lib.cell_of_heap hk 0).trans rfl
  have y1 := (Lib.cell_of_heap hk 1).trans rfl
  have y2 := (Lib.cell_of_heap hk 2).trans rfl
  have y3 := (Lib.cell_of_heap hk 3).trans rfl
  clear hk x0 x1 x2 x3
  go_wp2_with fail
  refine (HO.out _).mono ?_
  clear HO
  obtain ⟨N, hN⟩ : ∃ N, N = wantO (4 * a * a) (a * a + b * b + c * c + d * d) := ⟨_, rfl⟩
  rw [← hN]
  unfold wantO at hN
  rintro e w3 ⟨rfl, hb3⟩
  have hbw3 := below_trans hbw2 hb3
  have hk := (hb3.block _ (heap_lt HK.out)).trans HK.out
  have HK := Lib.hid hk
  have z0 := (Lib.cell_of_heap hk 0).trans rfl
  have z1 := (Lib.cell_of_heap hk 1).trans rfl
  have z2 := (Lib.cell_of_heap hk 2).trans rfl
  have z3 := (Lib.cell_of_heap hk 3).trans rfl
  clear hk y0 y1 y2 y3
  by_cases t1 : 4 * a * a = 4 * (a * a + b * b + c * c + d * d)
  · rw [if_pos t1] at hN
    subst hN
    go_wp2_with fail
    go_ret
    exact ⟨rfl, hbw3⟩
  rw [if_neg t1] at hN
  by_cases t2 : 4 * a * a = 0
  · rw [if_pos t2] at hN
    subst hN
    go_wp2_with fail
    go_ret
    exact ⟨rfl, hbw3⟩
  rw [if_neg t2] at hN
  by_cases t3 : 4 * a * a = a * a + b * b + c * c + d * d
  · rw [if_pos t3] at hN
    subst hN
    go_wp2_with fail
    go_ret
    exact ⟨rfl, hbw3⟩
  rw [if_neg t3] at hN
  by_cases t4 : 4 * a * a = 2 * (a * a + b * b + c * c + d * d)
  · rw [if_pos t4] at hN
    subst hN
    go_wp2_with fail
    go_ret
    exact ⟨rfl, hbw3⟩
  rw [if_neg t4] at hN
  by_cases t5 : 4 * a * a = 3 * (a * a + b * b + c * c + d * d)
  · rw [if_pos t5] at hN
    subst hN
    go_wp2_with fail
    go_ret
    exact ⟨rfl, hbw3⟩
  rw [if_neg t5] at hN
  subst hN
  go_wp2_with fail
  go_ret
  exact ⟨rfl, hbw3⟩
theorem Orders_any (a b c d : Int) (w : World) (hE : Env w) : Calls Tryz.prog 3 #[qv a b c d] w (Ret (.bool true) w) := by
  by_cases h : qchk a b c d = 0
  · exact Orders_ok a b c d w hE h
  · exact Orders_bad a b c d w hE h
end Go.Proofs.Kl
/- From a row's conditions to what the contracts ask of the world, and from a law's body to its row: shared by the statements about rotations. -/
namespace Go.Proofs.YtelglpocokhhoaaGreatDoor
open Go.ChangeShapes Go.WideShapes Go.ChangeAt Go.RowKit Go.Proofs.Kl

theorem Tryz.own : ownKnob Tryz.prog.godebug = none := by kernel_rfl
theorem Tryz.laidOut : laidOutB Tryz.prog = true := by kernel_rfl
/-- the listed variables: the same list at each row. -/
def LL : List (String × DataW Unit) := Rows.rotationOrdersRow.laid
theorem reads_at {P : Program} {w : World} : ∀ {l : List (String × DataW Unit)} {ps : List MemPlace}, DataW.LaidVars P w l ps → ∀ n d, (n, d) ∈ l →
    ∃ g t cs fuel p, P.globalNamed n = some g ∧ (P.globals[g]?).map (·.type) = some t ∧ w.var? P n = some cs ∧ DataW.trod (fun _ => ()) P w 0 (fun _ => true) false fuel t cs.toList = some (d, p)
  | [], _, _, _, _, hm => by cases hm
  | (_, _) :: _, _, h, n, d, hm => by
    obtain ⟨g, t, cs, fuel, p, _, h1, h2, h3, h4, h5, _⟩ := h
    rcases List.mem_cons.1 hm with e | e
    · cases e; exact ⟨g, t, cs, fuel, p, h1, h2, h3, h4⟩
    · exact reads_at h5 n d e
theorem pow10_data : (Rows.laid_internal_strconv_uint64pow10 : DataW Unit) = Lib.tabData .u64 Lib.pow10Tab := by rfl
theorem gPow : Tryz.prog.globalNamed "internal/strconv.uint64pow10" = some 3 := by kernel_rfl
theorem max_of {W : World} (hsh : W.ShapedOpen Tryz.prog) : ∃ m, W.cell? ⟨0, 0, none⟩ = some (.int .i64 m) :=
  cell_of_shapedOpen_int (g := 0) (t := 3) (zero := #[.int .i64 0]) hsh (of_decide_eq_true (by kernel_rfl)) (by kernel_rfl) rfl (by kernel_rfl) (by kernel_rfl) Tryz.underlying3
theorem env_of {W : World} (h : laidMetH Tryz.prog LL W) (hsh : W.ShapedOpen Tryz.prog) : Env W := by
  have h' : laidMet Tryz.prog LL W := by
    have := h
    rwa [MakeChecks.laidMetH_plain _ _ _ (by kernel_rfl)] at this
  obtain ⟨ps, hv, _⟩ := h'
  obtain ⟨g, t, cs, fuel, p, hg, ht, hvar, hd⟩ := reads_at hv "internal/strconv.uint64pow10" Rows.laid_internal_strconv_uint64pow10 (by unfold LL Rows.rotationOrdersRow; simp)
  obtain rfl := Option.some.inj (gPow.symm.trans hg)
  rw [pow10_data] at hd
  have hty : (Tryz.prog.globals[3]?).map (·.type) = some 237 := by kernel_rfl
  obtain rfl := Option.some.inj (hty.symm.trans ht)
  refine ⟨?_, max_of hsh⟩
  unfold Lib.TabIs
  rw [hvar, ← Lib.cells_of_tab (n := 20) (e := 165) Tryz.underlying237 Tryz.underlying165 (by kernel_rfl) (by kernel_rfl) hd]
theorem trodAll_below {H : Type} {enc : TypeId × Value → H} {W W' : World} (hb : Below W.heap.size W W') : ∀ (ts : List TypeId) (vs : List Value) (ds : List (DataW H)) (ps : List MemPlace),
    (∀ t ∈ ts, Tryz.prog.readableRec t = true ∧ t < Tryz.prog.types.size) → DataW.TrodAll enc Tryz.prog W 0 (fun _ => true) true ts vs ds ps → (∀ x ∈ ps, x.block < W.heap.size) →
    DataW.TrodAll enc Tryz.prog W' 0 (fun b => decide (b < W.heap.size)) true ts vs ds ps
  | [], vs, ds, ps, _, h, _ => by
    obtain ⟨rfl, rfl, rfl⟩ := trodAll_nil h
    exact trodAll_mk0
  | t :: ts, vs, ds, ps, hr, h, hlt => by
    obtain ⟨v, vs', d, ds', p, q, rfl, rfl, rfl, hd, hrest⟩ := trodAll_cons h
    have hr1 := hr t (List.mem_cons_self ..)
    exact ⟨p, q, Below.trod Tryz.laidOut hr1.1 hr1.2 hd hb (fun x hx => hlt x (List.mem_append_left _ hx)),
      trodAll_below hb ts vs' ds' q (fun t' ht' => hr t' (List.mem_cons_of_mem _ ht')) hrest (fun x hx => hlt x (List.mem_append_right _ hx)), rfl⟩

set_option maxRecDepth 100000 in
theorem lift_law {H : Type} {enc : TypeId × Value → H} {os : Os} {f : FuncId} {fn : Func} {s : ChangeSpec} (started : os.Started) (noInit : Tryz.prog.inits.idxOf? f = none) (hfn : Tryz.prog.funcs[f]? = some fn)
    (hrt : fn.resultTypes = #[4]) (hvars : s.vars = []) (hr : (fn.params.toList.all fun t => Tryz.prog.readableRec t && decide (t < Tryz.prog.types.size)) = true)
    (hs : ∀ ds : List (DataW H), ds.length = fn.params.size → s.fn H ds = { results := [.lit (.bool true)], args := ds })
    (witness : ∃ (w : World) (tape : Tape) (i : Input), w.os = os ∧ (w.forCall tape i).Shaped Tryz.prog ∧ i.vars = [] ∧ Input.okWide Tryz.prog (w.forCall tape i) .any w.heap.size f i ∧
      ((s.pre enc Tryz.prog fn [] false (w.forCall tape i).memory i.args ∧ laidMetH Tryz.prog LL (w.forCall tape i).memory) ∧ sizedMet enc Tryz.prog fn (OpenSpec.ofChange s) false (w.forCall tape i).memory i.args) ∧ ({} : Assume).holds Tryz.prog (lone (Frame.enter Tryz.prog f i.args .normal) [] (w.forCall tape i)))
    (law : ∀ (W : World) (base : Nat) (args : Array Value), Env W → args.size = fn.params.size → (∀ (j : Nat) t v, fn.params[j]? = some t → args[j]? = some v → Value.okWide Tryz.prog W .any base t v) → Calls Tryz.prog f args W (Ret (.bool true) W)) :
    ReturnsInHanded {} Tryz.checked os f .any (fun w args => (s.pre enc Tryz.prog fn [] false w args ∧ laidMetH Tryz.prog LL w) ∧ sizedMet enc Tryz.prog fn (OpenSpec.ofChange s) false w args) (s.post enc Tryz.prog fn false true false false) := by
  refine returnsInHanded_of_calls (C := Tryz.checked) Tryz.own started noInit witness ?_
  intro w tape i _ hsh _ hok hpre _
  obtain ⟨_, _, _, fn', hfn', _, _, _, _, hval⟩ := hok
  have e : fn' = fn := Option.some.inj (hfn'.symm.trans hfn)
  subst e
  obtain ⟨⟨⟨ds, gs, before, hw, _⟩, hl⟩, _⟩ := hpre
  have hw' := DataW.Whole.of_heap (w' := w.forCall tape i) (by rfl) hw
  have hlt := hw'.lt
  have hw2 := hw'
  obtain ⟨p, q, hA, hV, rfl, _, _⟩ := hw2
  have hA0 : DataW.TrodAll enc Tryz.prog (w.forCall tape i) 0 (fun _ => true) true fn'.params.toList i.args.toList ds p := hA
  rw [hvars] at hV
  obtain ⟨rfl, rfl⟩ := trodVars_none hV
  have hlen : ∀ (ts : List TypeId) (vs : List Value) (ds : List (DataW H)) (ps : List MemPlace), DataW.TrodAll enc Tryz.prog (w.forCall tape i) 0 (fun _ => true) true ts vs ds ps → vs.length = ts.length ∧ ds.length = ts.length := by
    intro ts
    induction ts with
    | nil => intro vs ds ps h; obtain ⟨rfl, rfl, _⟩ := trodAll_nil h; exact ⟨rfl, rfl⟩
    | cons t ts ih =>
      intro vs ds ps h
      obtain ⟨v, vs', d, ds', p, q, rfl, rfl, _, _, hrest⟩ := trodAll_cons h
      obtain ⟨h1, h2⟩ := ih _ _ _ hrest
      exact ⟨by simp [h1], by simp [h2]⟩
  obtain ⟨l1, l2⟩ := hlen _ _ _ _ hA0
  have hsz : i.args.size = fn'.params.size := by simpa using l1
  refine (law (w.forCall tape i) w.heap.size i.args (env_of (hl.of_heap (by rfl)) hsh) hsz hval).mono fun e W' ⟨he, hb⟩ => ?_
  subst he
  refine ChangeSpec.post_blind ?_
  have hsds : s.fn H (ds ++ []) = { results := [.lit (.bool true)], args := ds } := by rw [List.append_nil]; exact hs ds (by simpa using l2)
  refine ⟨ds, [], p ++ [], [], p, [], hw', ?_, ?_, ?_, World.keptBut_mono (fun p hp => hp.elim) (hb.frame (fun _ => False)), fun h => by cases h⟩
  · rw [hsds, hrt]
    exact trodAll_mk1 (shut_bool Tryz.underlying4 true)
  · rw [hsds]
    exact trodAll_below hb _ _ _ _ (fun t ht => by have := List.all_eq_true.1 hr t ht; simpa using this) hA0 (fun x hx => hlt x (List.mem_append_left _ hx))
  · rw [hsds, hvars]; rfl
end Go.Proofs.YtelglpocokhhoaaGreatDoor
