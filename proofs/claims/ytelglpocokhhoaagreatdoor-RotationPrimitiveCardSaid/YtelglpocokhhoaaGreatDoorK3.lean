/- Part 3 of the proof: the contracts that the statement's proof uses. -/
import Derived.Test.YtelglpocokhhoaaGreatDoorK1
import Derived.Test.YtelglpocokhhoaaGreatDoorK2
import Derived.Deep.LoopGhost
/- Plain facts on the texts of rational numbers. No program. -/
namespace Go.Proofs.Kl
open Go.Lib

/-- the text of a rational number. -/
def rt (q : Rat) : List UInt8 := if q.den = 1 then itoa q.num else itoa q.num ++ 47 :: decDigits q.den

theorem rt_whole {q : Rat} (h : q.den = 1) : rt q = itoa q.num := if_pos h
theorem rt_part {q : Rat} (h : q.den ≠ 1) : rt q = itoa q.num ++ 47 :: decDigits q.den := if_neg h
theorem rt_int (n : Int) : rt n = itoa n := rt_whole rfl
theorem rt_zero : rt 0 = [48] := itoa_zero
theorem rt_one : rt 1 = [49] := itoa_one
theorem split47 : ∀ {a b c d : List UInt8}, (47 : UInt8) ∉ a → (47 : UInt8) ∉ b → a ++ 47 :: c = b ++ 47 :: d → a = b ∧ c = d
  | [], [], c, d, _, _, h => by simpa using h
  | [], y :: b, c, d, _, hb, h => by
    simp at h; exact absurd (h.1 ▸ List.mem_cons_self ..) hb
  | x :: a, [], c, d, ha, _, h => by
    simp at h; exact absurd (h.1 ▸ List.mem_cons_self ..) ha
  | x :: a, y :: b, c, d, ha, hb, h => by
    simp at h
    obtain ⟨h1, h2⟩ := split47 (fun h' => ha (List.mem_cons_of_mem _ h')) (fun h' => hb (List.mem_cons_of_mem _ h')) h.2
    exact ⟨by rw [h.1, h1], h2⟩
theorem rt_inj {a b : Rat} (h : rt a = rt b) : a = b := by
  by_cases ha : a.den = 1 <;> by_cases hb : b.den = 1
  · rw [rt_whole ha, rt_whole hb] at h
    exact Rat.ext (itoa_inj h) (ha.trans hb.symm)
  · rw [rt_whole ha, rt_part hb] at h
    exact absurd (h ▸ List.mem_append_right _ (List.mem_cons_self ..)) (itoa_no_slash a.num)
  · rw [rt_part ha, rt_whole hb] at h
    exact absurd (h.symm ▸ List.mem_append_right _ (List.mem_cons_self ..)) (itoa_no_slash b.num)
  · rw [rt_part ha, rt_part hb] at h
    obtain ⟨h1, h2⟩ := split47 (itoa_no_slash _) (itoa_no_slash _) h
    exact Rat.ext (itoa_inj h1) (decDigits_inj h2)
theorem rt_eq_zero {q : Rat} : rt q = [48] ↔ q = 0 := ⟨fun h => rt_inj (h.trans rt_zero.symm), fun h => h ▸ rt_zero⟩
theorem rt_eq_one {q : Rat} : rt q = [49] ↔ q = 1 := ⟨fun h => rt_inj (h.trans rt_one.symm), fun h => h ▸ rt_one⟩
theorem rt_ne_nil (q : Rat) : rt q ≠ [] := by
  unfold rt; split
  · exact itoa_ne_nil _
  · simp
theorem rt_neg {q : Rat} (h : q < 0) : rt q = 45 :: rt (-q) := by
  have hn : q.num < 0 := by
    have := (Rat.lt_iff q 0).1 h
    simpa using this
  unfold rt
  rw [Rat.neg_den, Rat.neg_num, itoa_neg hn, itoa_nonneg (n := -q.num) (by omega)]
  rw [show (-q.num).toNat = q.num.natAbs by omega]
  split <;> rfl
theorem num_neg_iff {q : Rat} : q.num < 0 ↔ q < 0 := by
  have := Rat.num_nonneg (q := q)
  rw [← Rat.not_le]
  exact ⟨fun h h2 => by have := this.2 h2; omega, fun h => by have : ¬ 0 ≤ q.num := fun h2 => h (this.1 h2); omega⟩
theorem num_pos_iff {q : Rat} : 0 < q.num ↔ 0 < q := by
  have h1 := Rat.num_nonneg (q := -q)
  have : q ≤ 0 ↔ 0 ≤ -q := by rw [← Rat.neg_le_neg_iff]; simp
  rw [← Rat.not_le, this, ← h1, Rat.neg_num]; omega
theorem rt_head_digit {q : Rat} (h : 0 ≤ q) : ∃ c r, rt q = c :: r ∧ isD c = true := by
  have hn : 0 ≤ q.num := Rat.num_nonneg.2 h
  obtain ⟨c, r, e, hc⟩ := decDigits_cons_digit q.num.toNat
  unfold rt
  rw [itoa_nonneg hn, e]
  split
  · exact ⟨c, r, rfl, hc⟩
  · exact ⟨c, _, rfl, hc⟩
theorem rt_head_minus {q : Rat} : (rt q).head? = some 45 ↔ q < 0 := by
  constructor
  · intro h
    rw [← Rat.not_le]
    intro h0
    obtain ⟨c, r, e, hc⟩ := rt_head_digit h0
    rw [e] at h; simp at h; subst h; simp [isD] at hc
  · intro h; rw [rt_neg h]; rfl

/-! how long -/
theorem nDigits_mul (a b : Nat) : nDigits (a * b) ≤ nDigits a + nDigits b := by
  rw [nDigits_le (by have := nDigits_pos a; omega), Nat.pow_add]
  exact Nat.mul_lt_mul'' (lt_pow_nDigits a) (lt_pow_nDigits b)
theorem nDigits_add (a b : Nat) : nDigits (a + b) ≤ max (nDigits a) (nDigits b) + 1 := by
  rw [nDigits_le (by omega), Nat.pow_succ]
  have h1 : a < 10 ^ max (nDigits a) (nDigits b) := Nat.lt_of_lt_of_le (lt_pow_nDigits a) (Nat.pow_le_pow_right (by decide) (Nat.le_max_left ..))
  have h2 : b < 10 ^ max (nDigits a) (nDigits b) := Nat.lt_of_lt_of_le (lt_pow_nDigits b) (Nat.pow_le_pow_right (by decide) (Nat.le_max_right ..))
  omega
theorem nDigits_iadd (a b : Int) : nDigits (a + b).natAbs ≤ max (nDigits a.natAbs) (nDigits b.natAbs) + 1 :=
  Nat.le_trans (nDigits_mono (Int.natAbs_add_le a b)) (nDigits_add _ _)
theorem nDigits_imul (a b : Int) : nDigits (a * b).natAbs ≤ nDigits a.natAbs + nDigits b.natAbs := by
  rw [Int.natAbs_mul]; exact nDigits_mul _ _

/-- numerator and denominator have at most k digits. -/
structure Rg (k : Nat) (q : Rat) : Prop where
  num : nDigits q.num.natAbs ≤ k
  den : nDigits q.den ≤ k
theorem Rg.mono {j k : Nat} {q : Rat} (h : Rg j q) (hk : j ≤ k) : Rg k q := ⟨Nat.le_trans h.num hk, Nat.le_trans h.den hk⟩
theorem Rg.pos {k : Nat} {q : Rat} (h : Rg k q) : 0 < k := Nat.lt_of_lt_of_le (nDigits_pos _) h.den
theorem Rg_mkRat {n : Int} {d k : Nat} (hn : nDigits n.natAbs ≤ k) (hd : nDigits d ≤ k) : Rg k (mkRat n d) := by
  constructor
  · rw [Rat.num_mkRat]
    split
    · have := nDigits_pos d; rw [show nDigits (Int.natAbs 0) = 1 from nDigits_small (by decide)]; omega
    · refine Nat.le_trans (nDigits_mono ?_) hn
      exact Int.natAbs_ediv_le_natAbs _ _
  · rw [Rat.den_mkRat]
    split
    · have := nDigits_pos d; rw [show nDigits 1 = 1 from nDigits_small (by decide)]; omega
    · exact Nat.le_trans (nDigits_mono (Nat.div_le_self _ _)) hd
theorem Rg.mul {j k : Nat} {a b : Rat} (ha : Rg j a) (hb : Rg k b) : Rg (j + k) (a * b) := by
  rw [Rat.mul_def']
  exact Rg_mkRat (Nat.le_trans (nDigits_imul _ _) (Nat.add_le_add ha.num hb.num)) (Nat.le_trans (nDigits_mul _ _) (Nat.add_le_add ha.den hb.den))
theorem Rg.add {j k : Nat} {a b : Rat} (ha : Rg j a) (hb : Rg k b) : Rg (j + k + 1) (a + b) := by
  rw [Rat.add_def']
  have h1 := nDigits_imul a.num b.den
  have h2 := nDigits_imul b.num a.den
  have h3 := nDigits_iadd (a.num * b.den) (b.num * a.den)
  have h4 := nDigits_mul a.den b.den
  simp only [Int.natAbs_natCast] at h1 h2
  have := ha.num; have := ha.den; have := hb.num; have := hb.den
  exact Rg_mkRat (by omega) (by omega)
theorem Rg.neg {k : Nat} {a : Rat} (ha : Rg k a) : Rg k (-a) := ⟨by rw [Rat.neg_num, Int.natAbs_neg]; exact ha.num, ha.den⟩
theorem Rg.sub {j k : Nat} {a b : Rat} (ha : Rg j a) (hb : Rg k b) : Rg (j + k + 1) (a - b) := by
  rw [Rat.sub_eq_add_neg]; exact ha.add hb.neg
theorem Rg.inv {k : Nat} {a : Rat} (ha : Rg k a) : Rg k a⁻¹ := by
  have := nDigits_pos a.den
  have h1 : nDigits 1 = 1 := nDigits_small (by decide)
  have := ha.num; have := ha.den
  constructor
  · rw [Rat.num_inv, Int.natAbs_mul, Int.natAbs_natCast]
    refine Nat.le_trans (nDigits_mono (b := a.den) ?_) ha.den
    have : a.num.sign.natAbs ≤ 1 := by rw [Int.natAbs_sign]; split <;> omega
    calc a.num.sign.natAbs * a.den ≤ 1 * a.den := Nat.mul_le_mul_right _ this
      _ = a.den := by omega
  · rw [Rat.den_inv]; split <;> omega
theorem Rg.div {j k : Nat} {a b : Rat} (ha : Rg j a) (hb : Rg k b) : Rg (j + k) (a / b) := by
  rw [Rat.div_def]; exact ha.mul hb.inv
theorem Rg_int {k : Nat} {n : Int} (h : nDigits n.natAbs ≤ k) : Rg k (n : Rat) :=
  ⟨h, Nat.le_trans (by rw [Rat.den_intCast, nDigits_small (by decide)]; exact nDigits_pos _) h⟩

/-! the quotient of two integers in lowest terms -/
theorem divInt_num_den_pos {n : Int} {d : Nat} (hd : 0 < d) : (mkRat n d).num = n / (Nat.gcd n.natAbs d : Nat) ∧ (mkRat n d).den = d / Nat.gcd n.natAbs d := by
  rw [Rat.num_mkRat, Rat.den_mkRat, if_neg (by omega), if_neg (by omega), Nat.gcd_comm]
  exact ⟨rfl, rfl⟩
end Go.Proofs.Kl
/- integer.Add. -/
namespace Go.Proofs.Kl
open Go.RowKit Go.Shelf

theorem natAbs_of_len {n : Int} {k : Nat} (hl : (Lib.itoa n).length ≤ k) (hk : 0 < k) : n.natAbs < 10 ^ k := by
  refine (nDigits_le hk).1 ?_
  rw [← Lib.decDigits_length]
  unfold Lib.itoa at hl
  split at hl
  · simp at hl; omega
  · have : n.toNat = n.natAbs := by omega
    rw [this] at hl; omega
/-- quick at whatever integer. -/
theorem quick_any (n : Int) (k : Nat) (w : World) (hk : k ≤ 18) :
    Calls Tryz.prog 133 #[.string (tx (Lib.itoa n)), .int .i64 k] w (Ret (.tuple #[.int .i64 (if (Lib.itoa n).length ≤ k then n else 0), .bool (decide ((Lib.itoa n).length ≤ k))]) w) := by
  by_cases h : (Lib.itoa n).length ≤ k
  · simp only [h, if_true, decide_true]; exact quick_short n k w h hk
  · simp only [h, if_false, decide_false]
    refine (quick_long n k w (by omega)).mono ?_
    rintro e w' ⟨rfl, rfl⟩
    exact ⟨rfl, Below.refl _ _⟩

set_option maxHeartbeats 1000000 in
set_option maxRecDepth 100000 in
theorem Add_short (a b : Int) (w : World) (hE : Env w) (ha : (Lib.itoa a).length ≤ 18) (hb : (Lib.itoa b).length ≤ 18) :
    Calls Tryz.prog 111 #[.string (tx (Lib.itoa a)), .string (tx (Lib.itoa b))] w (Ret (.string (tx (Lib.itoa (a + b)))) w) := by
  have ha' := natAbs_of_len ha (by decide)
  have hb' := natAbs_of_len hb (by decide)
  have h1 : -9223372036854775808 ≤ a + b ∧ a + b ≤ 9223372036854775807 := by omega
  go_enter Tryz.func111, Tryz.ntmps111
  go_wp2_with fail
  refine (quick_short a 18 w ha (by decide)).mono ?_
  rintro e w1 ⟨rfl, hb1⟩
  go_wp2_with fail
  refine (quick_short b 18 w1 hb (by decide)).mono ?_
  rintro e w2 ⟨rfl, hb2⟩
  go_wp2_with fail
  refine (Of_any (a + b) h1.1 h1.2 w2 ((hE.below hb1).below hb2)).mono ?_
  rintro e w3 ⟨rfl, hb3⟩
  go_wp2
  go_ret
  exact ⟨rfl, below_trans (below_trans hb1 hb2) hb3⟩

theorem quick_some (n : Int) (k : Nat) (w : World) (hk : k ≤ 18) :
    Calls Tryz.prog 133 #[.string (tx (Lib.itoa n)), .int .i64 k] w fun e w' => ∃ (r : Int) (ok : Bool), e = .returned (.tuple #[.int .i64 r, .bool ok]) ∧ (ok = true ↔ (Lib.itoa n).length ≤ k) ∧ Below w.heap.size w w' := by
  refine (quick_any n k w hk).mono ?_
  rintro e w' ⟨rfl, hb⟩
  exact ⟨_, _, rfl, by simp, hb⟩

theorem sgd_same {a b : Int} {sa : Bool} (h1 : sa = decide (a < 0)) (h2 : sa = decide (b < 0)) : sgd sa (a.natAbs + b.natAbs) = a + b := by
  unfold sgd
  cases sa <;> simp at h1 h2 <;> simp <;> omega
theorem sgd_sub {a b : Int} {sa sb : Bool} (h1 : sa = decide (a < 0)) (h2 : sb = decide (b < 0)) (hne : sa ≠ sb) (hle : b.natAbs ≤ a.natAbs) : sgd sa (a.natAbs - b.natAbs) = a + b := by
  unfold sgd
  cases sa <;> cases sb <;> simp at h1 h2 hne <;> simp <;> omega
theorem swap_cells {w : World} {X Y : Nat} (hne : X ≠ Y) (p0 p1 q0 q1 : Value) {a b c d : Value} (h1 : w.cell? ⟨X, 0, none⟩ = some a) (h2 : w.cell? ⟨X, 1, none⟩ = some b) (_h3 : w.cell? ⟨Y, 0, none⟩ = some c) (h4 : w.cell? ⟨Y, 1, none⟩ = some d) :
    ((((w.setCell ⟨X, 0, none⟩ p0).setCell ⟨X, 1, none⟩ p1).setCell ⟨Y, 0, none⟩ q0).setCell ⟨Y, 1, none⟩ q1).cell? ⟨X, 0, none⟩ = some p0 ∧
    ((((w.setCell ⟨X, 0, none⟩ p0).setCell ⟨X, 1, none⟩ p1).setCell ⟨Y, 0, none⟩ q0).setCell ⟨Y, 1, none⟩ q1).cell? ⟨X, 1, none⟩ = some p1 ∧
    ((((w.setCell ⟨X, 0, none⟩ p0).setCell ⟨X, 1, none⟩ p1).setCell ⟨Y, 0, none⟩ q0).setCell ⟨Y, 1, none⟩ q1).cell? ⟨Y, 1, none⟩ = some q1 := by
  refine ⟨?_, ?_, ?_⟩
  · rw [World.cell?_setCell_other _ _ _ _ (by simp), World.cell?_setCell_other _ _ _ _ (by simp), World.cell?_setCell_other _ _ _ _ (by simp)]
    exact World.cell?_setCell_same _ _ _ h1
  · rw [World.cell?_setCell_other _ _ _ _ (by simp), World.cell?_setCell_other _ _ _ _ (by simp)]
    exact World.cell?_setCell_same _ _ _ (by rw [World.cell?_setCell_other _ _ _ _ (by simp)]; exact h2)
  · exact World.cell?_setCell_same _ _ _ (by rw [World.cell?_setCell_other _ _ _ _ (by simp), World.cell?_setCell_other _ _ _ _ (by simp), World.cell?_setCell_other _ _ _ _ (by simp)]; exact h4)
set_option maxHeartbeats 2000000 in
set_option maxRecDepth 100000 in
theorem Add_long (a b : Int) (w : World) (hE : Env w) (ha : Lib.nDigits a.natAbs ≤ 400000000) (hb : Lib.nDigits b.natAbs ≤ 400000000) (hab : ¬ ((Lib.itoa a).length ≤ 18 ∧ (Lib.itoa b).length ≤ 18)) :
    Calls Tryz.prog 111 #[.string (tx (Lib.itoa a)), .string (tx (Lib.itoa b))] w (Ret (.string (tx (Lib.itoa (a + b)))) w) := by
  have HE := Lib.hid hE
  have HA := Lib.hid ha
  have HB := Lib.hid hb
  have HAB := Lib.hid hab
  have HLA := Lib.hid (show (pcs 1000000000 a.natAbs).length < 1000000000 from Nat.lt_of_le_of_lt (pcs_len (k := 100000000) (by decide) (by omega)) (by decide))
  have HLB := Lib.hid (show (pcs 1000000000 b.natAbs).length < 1000000000 from Nat.lt_of_le_of_lt (pcs_len (k := 100000000) (by decide) (by omega)) (by decide))
  have HLS := Lib.hid (show Lib.nDigits (a.natAbs + b.natAbs) ≤ 9000000000 from by have := nDigits_add a.natAbs b.natAbs; omega)
  clear hE ha hb hab
  go_enter Tryz.func111, Tryz.ntmps111
  go_upto_if 16 with (go_at_call 133; refine (quick_some a 18 _ (by decide)).mono ?_; rintro e w1 ⟨r1, ok1, rfl, h1, hb1⟩)
  go_cut [5, 6] (fun s5 s6 wi => Below w.heap.size w wi)
  case first =>
    go_wp2_with fail
    · refine (quick_some b 18 _ (by decide)).mono ?_
      rintro e w2 ⟨r2, ok2, rfl, h2, hb2⟩
      cases ok2
      · go_wp2_with fail
        go_meet
        exact below_trans hb1 hb2
      · exact absurd ⟨h1.1 (by assumption), h2.1 rfl⟩ HAB.out
    · go_meet
      exact hb1
  case rest =>
    have hbl := hcut
    generalize wc = wx at *
    go_wp2_with fail
    refine (open_itoa a wx (by have := HA.out; omega)).mono ?_
    rintro e w2 ⟨va, rfl, hna, hb2⟩
    obtain ⟨ma, rfl, hsa⟩ := hna
    obtain ⟨A1, c1, rfl, -⟩ := id hsa
    go_wp2_with fail
    refine (open_itoa b w2 (by have := HB.out; omega)).mono ?_
    rintro e w3 ⟨vb, rfl, hnb, hb3⟩
    obtain ⟨mb, rfl, hsb⟩ := hnb
    obtain ⟨A2, c2, rfl, -⟩ := id hsb
    have hbx : Below wx.heap.size wx w3 := below_trans hb2 hb3
    have hbw := below_trans hbl hbx
    have HSA := Lib.hid (hsa.below hb3)
    have HSB := Lib.hid hsb
    clear hsa hsb hb2 hb3 hcut hbx hbl hb1 h1
    clear wx wc w2 w1
    obtain ⟨sa, hsa⟩ : ∃ sa, sa = decide (a < 0) := ⟨_, rfl⟩
    obtain ⟨sb, hsb⟩ : ∃ sb, sb = decide (b < 0) := ⟨_, rfl⟩
    rw [← hsa, ← hsb]
    have HS1 := Lib.hid hsa
    have HS2 := Lib.hid hsb
    clear hsa hsb
    have bx := World.alloc_heap_new w3 (.cells #[.bool sa, .slice A1 (pcs 1000000000 a.natAbs).length c1] 159)
    have bx5 := (halloc_old _ (.cells #[.bool sb, .slice A2 (pcs 1000000000 b.natAbs).length c2] 159) _ (Array.getElem?_eq_some_iff.1 bx).1).trans bx
    have by5 := World.alloc_heap_new (w3.alloc (.cells #[.bool sa, .slice A1 (pcs 1000000000 a.natAbs).length c1] 159)) (.cells #[.bool sb, .slice A2 (pcs 1000000000 b.natAbs).length c2] 159)
    have hb35 : Below w3.heap.size w3 ((w3.alloc (.cells #[.bool sa, .slice A1 (pcs 1000000000 a.natAbs).length c1] 159)).alloc (.cells #[.bool sb, .slice A2 (pcs 1000000000 b.natAbs).length c2] 159)) := ((Below.refl _ _).alloc (Nat.le_refl _) _).alloc (by simp) _
    rw [World.size_alloc] at by5
    generalize hW5 : (w3.alloc (.cells #[.bool sa, .slice A1 (pcs 1000000000 a.natAbs).length c1] 159)).alloc (.cells #[.bool sb, .slice A2 (pcs 1000000000 b.natAbs).length c2] 159) = W5 at hb35 bx5 by5
    have hbw5 := below_trans hbw hb35
    have HSA5 := Lib.hid (HSA.out.below hb35)
    have HSB5 := Lib.hid (HSB.out.below hb35)
    have cx0 : W5.cell? ⟨w3.heap.size, 0, none⟩ = some (.bool sa) := by rw [Lib.cell_of_heap bx5]; rfl
    have cx1 : W5.cell? ⟨w3.heap.size, 1, none⟩ = some (.slice A1 (pcs 1000000000 a.natAbs).length c1) := by rw [Lib.cell_of_heap bx5]; rfl
    have cy0 : W5.cell? ⟨w3.heap.size + 1, 0, none⟩ = some (.bool sb) := by rw [Lib.cell_of_heap by5]; rfl
    have cy1 : W5.cell? ⟨w3.heap.size + 1, 1, none⟩ = some (.slice A2 (pcs 1000000000 b.natAbs).length c2) := by rw [Lib.cell_of_heap by5]; rfl
    have fx0 : W5.frozen? ⟨w3.heap.size, 0, none⟩ = false := Lib.frozen_of_heap bx5 0
    have fx1 : W5.frozen? ⟨w3.heap.size, 1, none⟩ = false := Lib.frozen_of_heap bx5 1
    have fy0 : W5.frozen? ⟨w3.heap.size + 1, 0, none⟩ = false := Lib.frozen_of_heap by5 0
    have fy1 : W5.frozen? ⟨w3.heap.size + 1, 1, none⟩ = false := Lib.frozen_of_heap by5 1
    have hx5 := (Array.getElem?_eq_some_iff.1 bx5).1
    have hy5 := (Array.getElem?_eq_some_iff.1 by5).1
    clear bx bx5 by5
    by_cases hss : sa = sb
    · subst hss
      go_upto_region 8 with fail
      clear hW5
      go_region_held3 (fun w' => w'.cell? ⟨w3.heap.size, 0, none⟩ = some (.bool sa) ∧ w'.cell? ⟨w3.heap.size, 1, none⟩ = some (.slice A1 (pcs 1000000000 a.natAbs).length c1) ∧ w'.cell? ⟨w3.heap.size + 1, 1, none⟩ = some (.slice A2 (pcs 1000000000 b.natAbs).length c2))
        (first
          | exact ⟨cell_below hb7 (cell_below hb6 cx0), cell_below hb7 (cell_below hb6 cx1), cell_below hb7 (cell_below hb6 cy1)⟩
          | exact ⟨cell_below hb6 cx0, cell_below hb6 cx1, cell_below hb6 cy1⟩
          | exact ⟨cx0, cx1, cy1⟩)
        (first
        | (go_at_call 137; refine (plus_any _ _ _ _ _ (Good_pcs (by decide) _) (Good_pcs (by decide) _) (HSA5.out.below (Below.refl _ _).drew) (HSB5.out.below (Below.refl _ _).drew) ⟨HLA.out, HLB.out⟩).mono ?_; rintro e w6 ⟨vp, rfl, hsp, hb6⟩; rw [pv_pcs (by decide), pv_pcs (by decide)] at hsp; obtain ⟨A6, c6, rfl, -⟩ := id hsp)
        | (go_at_call 136; refine (close_num sa (a.natAbs + b.natAbs) _ w6 (HE.out.below (below_trans hbw5.drew hb6)) hsp HLS.out).mono ?_; rintro e w7 ⟨rfl, hb7⟩))
      go_wp2
      go_ret
      refine ⟨?_, below_trans (below_trans hbw5.drew hb6) hb7⟩
      rw [sgd_same HS1.out HS2.out]; rfl
    · have hssb : (sa == sb) = false := beq_false_of_ne hss
      by_cases hlt : a.natAbs < b.natAbs
      · go_wp2_with fail
        clear hW5
        refine (order_lt _ _ _ _ W5 (Good_pcs (by decide) _) (Good_pcs (by decide) _) HSA5.out HSB5.out (by rw [pv_pcs (by decide), pv_pcs (by decide)]; exact hlt)).mono ?_
        rintro e w6 ⟨rfl, hb6⟩
        obtain ⟨hc6, hf6⟩ := bcell hb6
        go_upto_region 11 with fail
        obtain ⟨dx0, dx1, dy1⟩ := swap_cells (X := w3.heap.size) (Y := w3.heap.size + 1) (by omega) (.bool sb) (.slice A2 (pcs 1000000000 b.natAbs).length c2) (.bool sa) (.slice A1 (pcs 1000000000 a.natAbs).length c1) (cell_below hb6 cx0) (cell_below hb6 cx1) (cell_below hb6 cy0) (cell_below hb6 cy1)
        have hb37 := ((((below_trans hb35 hb6).setCell (p := ⟨w3.heap.size, 0, none⟩) (Nat.le_refl _) (.bool sb)).setCell (p := ⟨w3.heap.size, 1, none⟩) (Nat.le_refl _) (.slice A2 (pcs 1000000000 b.natAbs).length c2)).setCell (p := ⟨w3.heap.size + 1, 0, none⟩) (Nat.le_succ _) (.bool sa)).setCell (p := ⟨w3.heap.size + 1, 1, none⟩) (Nat.le_succ _) (.slice A1 (pcs 1000000000 a.natAbs).length c1)
        generalize (((w6.setCell ⟨w3.heap.size, 0, none⟩ (.bool sb)).setCell ⟨w3.heap.size, 1, none⟩ (.slice A2 (pcs 1000000000 b.natAbs).length c2)).setCell ⟨w3.heap.size + 1, 0, none⟩ (.bool sa)).setCell ⟨w3.heap.size + 1, 1, none⟩ (.slice A1 (pcs 1000000000 a.natAbs).length c1) = W7 at *
        clear hc6 hf6 cx0 cx1 cy0 cy1 fx0 fx1 fy0 fy1
        go_region_held3 (fun w' => w'.cell? ⟨w3.heap.size, 0, none⟩ = some (.bool sb) ∧ w'.cell? ⟨w3.heap.size, 1, none⟩ = some (.slice A2 (pcs 1000000000 b.natAbs).length c2) ∧ w'.cell? ⟨w3.heap.size + 1, 1, none⟩ = some (.slice A1 (pcs 1000000000 a.natAbs).length c1))
          (first
            | exact ⟨cell_below hb8 (cell_below hb7 dx0), cell_below hb8 (cell_below hb7 dx1), cell_below hb8 (cell_below hb7 dy1)⟩
            | exact ⟨cell_below hb7 dx0, cell_below hb7 dx1, cell_below hb7 dy1⟩
            | exact ⟨dx0, dx1, dy1⟩)
          (first
          | (go_at_call 138; refine (minus_any _ _ _ _ _ (Good_pcs (by decide) _) (Good_pcs (by decide) _) (HSB.out.below hb37.drew) (HSA.out.below hb37.drew) HLB.out (by rw [pv_pcs (by decide), pv_pcs (by decide)]; omega)).mono ?_; rintro e w7 ⟨vp, rfl, hsp, hb7⟩; rw [pv_pcs (by decide), pv_pcs (by decide)] at hsp; obtain ⟨A7, c7, rfl, -⟩ := id hsp)
          | (go_at_call 136; refine (close_num sb (b.natAbs - a.natAbs) _ w7 (HE.out.below (below_trans hbw (below_trans hb37.drew hb7))) hsp (by have := nDigits_mono (Nat.sub_le b.natAbs a.natAbs); have := HA.out; have := HB.out; omega)).mono ?_; rintro e w8 ⟨rfl, hb8⟩))
        go_wp2
        go_ret
        refine ⟨?_, below_trans hbw (below_trans (below_trans hb37.drew hb7) hb8)⟩
        rw [sgd_sub HS2.out HS1.out (Ne.symm hss) (by omega), Int.add_comm]; rfl
      · go_wp2_with fail
        clear hW5
        refine (order_ge _ _ _ _ W5 (Good_pcs (by decide) _) (Good_pcs (by decide) _) HSA5.out HSB5.out (by rw [pv_pcs (by decide), pv_pcs (by decide)]; omega)).mono ?_
        rintro e w6 ⟨r6, hr6, -, rfl, hb6⟩
        have hrn : ¬ r6 < 0 := by omega
        go_upto_region 11 with fail
        have dx0 := cell_below hb6 cx0
        have dx1 := cell_below hb6 cx1
        have dy1 := cell_below hb6 cy1
        have hb37 := below_trans hb35 hb6
        clear cx0 cx1 cy0 cy1 fx0 fx1 fy0 fy1
        go_region_held3 (fun w' => w'.cell? ⟨w3.heap.size, 0, none⟩ = some (.bool sa) ∧ w'.cell? ⟨w3.heap.size, 1, none⟩ = some (.slice A1 (pcs 1000000000 a.natAbs).length c1) ∧ w'.cell? ⟨w3.heap.size + 1, 1, none⟩ = some (.slice A2 (pcs 1000000000 b.natAbs).length c2))
          (first
            | exact ⟨cell_below hb8 (cell_below hb7 dx0), cell_below hb8 (cell_below hb7 dx1), cell_below hb8 (cell_below hb7 dy1)⟩
            | exact ⟨cell_below hb7 dx0, cell_below hb7 dx1, cell_below hb7 dy1⟩
            | exact ⟨dx0, dx1, dy1⟩)
          (first
          | (go_at_call 138; refine (minus_any _ _ _ _ _ (Good_pcs (by decide) _) (Good_pcs (by decide) _) (HSA.out.below hb37.drew) (HSB.out.below hb37.drew) HLA.out (by rw [pv_pcs (by decide), pv_pcs (by decide)]; omega)).mono ?_; rintro e w7 ⟨vp, rfl, hsp, hb7⟩; rw [pv_pcs (by decide), pv_pcs (by decide)] at hsp; obtain ⟨A7, c7, rfl, -⟩ := id hsp)
          | (go_at_call 136; refine (close_num sa (a.natAbs - b.natAbs) _ w7 (HE.out.below (below_trans hbw (below_trans hb37.drew hb7))) hsp (by have := nDigits_mono (Nat.sub_le a.natAbs b.natAbs); have := HA.out; have := HB.out; omega)).mono ?_; rintro e w8 ⟨rfl, hb8⟩))
        go_wp2
        go_ret
        refine ⟨?_, below_trans hbw (below_trans (below_trans hb37.drew hb7) hb8)⟩
        rw [sgd_sub HS1.out HS2.out hss (by omega)]; rfl

/-- integer.Add. -/
theorem Add_itoa (a b : Int) (w : World) (hE : Env w) (ha : Lib.nDigits a.natAbs ≤ 400000000) (hb : Lib.nDigits b.natAbs ≤ 400000000) :
    Calls Tryz.prog 111 #[.string (tx (Lib.itoa a)), .string (tx (Lib.itoa b))] w (Ret (.string (tx (Lib.itoa (a + b)))) w) := by
  by_cases h : (Lib.itoa a).length ≤ 18 ∧ (Lib.itoa b).length ≤ 18
  · exact Add_short a b w hE h.1 h.2
  · exact Add_long a b w hE ha hb h
end Go.Proofs.Kl
/- integer.Mul. -/
namespace Go.Proofs.Kl
open Go.RowKit Go.Shelf
theorem mul_bound {a b m : Nat} (ha : a < m) (hb : b < m) : a * b ≤ m * m := Nat.mul_le_mul (by omega) (by omega)
theorem sgd_mul {a b : Int} {sa sb : Bool} (h1 : sa = decide (a < 0)) (h2 : sb = decide (b < 0)) : sgd (sa != sb) (a.natAbs * b.natAbs) = a * b := by
  have key : ((a.natAbs * b.natAbs : Nat) : Int) = (a.natAbs : Int) * (b.natAbs : Int) := by simp
  unfold sgd
  cases sa <;> cases sb <;> simp at h1 h2 <;> simp only [bne_self_eq_false, Bool.false_eq_true, if_false, if_true, Bool.bne_true, Bool.not_false, Bool.bne_false, key]
  · have e1 : (a.natAbs : Int) = a := by omega
    have e2 : (b.natAbs : Int) = b := by omega
    rw [e1, e2]
  · have e1 : (a.natAbs : Int) = a := by omega
    have e2 : (b.natAbs : Int) = -b := by omega
    rw [e1, e2]; grind
  · have e1 : (a.natAbs : Int) = -a := by omega
    have e2 : (b.natAbs : Int) = b := by omega
    rw [e1, e2]; grind
  · have e1 : (a.natAbs : Int) = -a := by omega
    have e2 : (b.natAbs : Int) = -b := by omega
    rw [e1, e2]; grind
set_option maxHeartbeats 1000000 in
set_option maxRecDepth 100000 in
theorem Mul_short (a b : Int) (w : World) (hE : Env w) (ha : (Lib.itoa a).length ≤ 9) (hb : (Lib.itoa b).length ≤ 9) :
    Calls Tryz.prog 86 #[.string (tx (Lib.itoa a)), .string (tx (Lib.itoa b))] w (Ret (.string (tx (Lib.itoa (a * b)))) w) := by
  have h1 : (a * b).natAbs ≤ 10 ^ 9 * 10 ^ 9 := by
    rw [Int.natAbs_mul]; exact mul_bound (natAbs_of_len ha (by decide)) (natAbs_of_len hb (by decide))
  have h2 : -9223372036854775808 ≤ a * b ∧ a * b ≤ 9223372036854775807 := by generalize a * b = c at *; omega
  clear h1
  go_enter Tryz.func86, Tryz.ntmps86
  go_wp2_with fail
  refine (quick_short a 9 w ha (by decide)).mono ?_
  rintro e w1 ⟨rfl, hb1⟩
  go_wp2_with fail
  refine (quick_short b 9 w1 hb (by decide)).mono ?_
  rintro e w2 ⟨rfl, hb2⟩
  go_wp2_with fail
  refine (Of_any (a * b) h2.1 h2.2 w2 ((hE.below hb1).below hb2)).mono ?_
  rintro e w3 ⟨rfl, hb3⟩
  go_wp2
  go_ret
  exact ⟨rfl, below_trans (below_trans hb1 hb2) hb3⟩

set_option maxHeartbeats 2000000 in
set_option maxRecDepth 100000 in
theorem Mul_long (a b : Int) (w : World) (hE : Env w) (ha : Lib.nDigits a.natAbs ≤ 400000000) (hb : Lib.nDigits b.natAbs ≤ 400000000) (hab : ¬ ((Lib.itoa a).length ≤ 9 ∧ (Lib.itoa b).length ≤ 9)) :
    Calls Tryz.prog 86 #[.string (tx (Lib.itoa a)), .string (tx (Lib.itoa b))] w (Ret (.string (tx (Lib.itoa (a * b)))) w) := by
  have HE := Lib.hid hE
  have HA := Lib.hid ha
  have HB := Lib.hid hb
  have HAB := Lib.hid hab
  have HLA := Lib.hid (show (pcs 1000000000 a.natAbs).length < 1000000000 from Nat.lt_of_le_of_lt (pcs_len (k := 100000000) (by decide) (by omega)) (by decide))
  have HLB := Lib.hid (show (pcs 1000000000 b.natAbs).length < 1000000000 from Nat.lt_of_le_of_lt (pcs_len (k := 100000000) (by decide) (by omega)) (by decide))
  have HLS := Lib.hid (show Lib.nDigits (a.natAbs * b.natAbs) ≤ 9000000000 from by have := nDigits_mul a.natAbs b.natAbs; omega)
  clear hE ha hb hab
  go_enter Tryz.func86, Tryz.ntmps86
  go_upto_if 16 with (go_at_call 133; refine (quick_some a 9 _ (by decide)).mono ?_; rintro e w1 ⟨r1, ok1, rfl, h1, hb1⟩)
  go_cut [5, 6] (fun s5 s6 wi => Below w.heap.size w wi)
  case first =>
    go_wp2_with fail
    · refine (quick_some b 9 _ (by decide)).mono ?_
      rintro e w2 ⟨r2, ok2, rfl, h2, hb2⟩
      cases ok2
      · go_wp2_with fail
        go_meet
        exact below_trans hb1 hb2
      · exact absurd ⟨h1.1 (by assumption), h2.1 rfl⟩ HAB.out
    · go_meet
      exact hb1
  case rest =>
    have hbl := hcut
    generalize wc = wx at *
    go_wp2_with fail
    refine (open_itoa a wx (by have := HA.out; omega)).mono ?_
    rintro e w2 ⟨va, rfl, hna, hb2⟩
    obtain ⟨ma, rfl, hsa⟩ := hna
    obtain ⟨A1, c1, rfl, -⟩ := id hsa
    go_wp2_with fail
    refine (open_itoa b w2 (by have := HB.out; omega)).mono ?_
    rintro e w3 ⟨vb, rfl, hnb, hb3⟩
    obtain ⟨mb, rfl, hsb⟩ := hnb
    obtain ⟨A2, c2, rfl, -⟩ := id hsb
    have hbx : Below wx.heap.size wx w3 := below_trans hb2 hb3
    have hbw := below_trans hbl hbx
    have HSA := Lib.hid (hsa.below hb3)
    have HSB := Lib.hid hsb
    clear hsa hsb hb2 hb3 hcut hbx hbl hb1 h1
    clear wx wc w2 w1
    obtain ⟨sa, hsa⟩ : ∃ sa, sa = decide (a < 0) := ⟨_, rfl⟩
    obtain ⟨sb, hsb⟩ : ∃ sb, sb = decide (b < 0) := ⟨_, rfl⟩
    rw [← hsa, ← hsb]
    have HS1 := Lib.hid hsa
    have HS2 := Lib.hid hsb
    clear hsa hsb
    have bx := World.alloc_heap_new w3 (.cells #[.bool sa, .slice A1 (pcs 1000000000 a.natAbs).length c1] 159)
    have bx5 := (halloc_old _ (.cells #[.bool sb, .slice A2 (pcs 1000000000 b.natAbs).length c2] 159) _ (Array.getElem?_eq_some_iff.1 bx).1).trans bx
    have by5 := World.alloc_heap_new (w3.alloc (.cells #[.bool sa, .slice A1 (pcs 1000000000 a.natAbs).length c1] 159)) (.cells #[.bool sb, .slice A2 (pcs 1000000000 b.natAbs).length c2] 159)
    have hb35 : Below w3.heap.size w3 ((w3.alloc (.cells #[.bool sa, .slice A1 (pcs 1000000000 a.natAbs).length c1] 159)).alloc (.cells #[.bool sb, .slice A2 (pcs 1000000000 b.natAbs).length c2] 159)) := ((Below.refl _ _).alloc (Nat.le_refl _) _).alloc (by simp) _
    rw [World.size_alloc] at by5
    generalize hW5 : (w3.alloc (.cells #[.bool sa, .slice A1 (pcs 1000000000 a.natAbs).length c1] 159)).alloc (.cells #[.bool sb, .slice A2 (pcs 1000000000 b.natAbs).length c2] 159) = W5 at hb35 bx5 by5
    have hbw5 := below_trans hbw hb35
    have HSA5 := Lib.hid (HSA.out.below hb35)
    have HSB5 := Lib.hid (HSB.out.below hb35)
    have cx0 : W5.cell? ⟨w3.heap.size, 0, none⟩ = some (.bool sa) := by rw [Lib.cell_of_heap bx5]; rfl
    have cx1 : W5.cell? ⟨w3.heap.size, 1, none⟩ = some (.slice A1 (pcs 1000000000 a.natAbs).length c1) := by rw [Lib.cell_of_heap bx5]; rfl
    have cy0 : W5.cell? ⟨w3.heap.size + 1, 0, none⟩ = some (.bool sb) := by rw [Lib.cell_of_heap by5]; rfl
    have cy1 : W5.cell? ⟨w3.heap.size + 1, 1, none⟩ = some (.slice A2 (pcs 1000000000 b.natAbs).length c2) := by rw [Lib.cell_of_heap by5]; rfl
    clear bx bx5 by5
    go_upto_region 7 with fail
    clear hW5
    go_region_held3 (fun w' => w'.cell? ⟨w3.heap.size, 0, none⟩ = some (.bool sa) ∧ w'.cell? ⟨w3.heap.size, 1, none⟩ = some (.slice A1 (pcs 1000000000 a.natAbs).length c1) ∧ w'.cell? ⟨w3.heap.size + 1, 0, none⟩ = some (.bool sb) ∧ w'.cell? ⟨w3.heap.size + 1, 1, none⟩ = some (.slice A2 (pcs 1000000000 b.natAbs).length c2))
      (first
        | exact ⟨cell_below hb7 (cell_below hb6 cx0), cell_below hb7 (cell_below hb6 cx1), cell_below hb7 (cell_below hb6 cy0), cell_below hb7 (cell_below hb6 cy1)⟩
        | exact ⟨cell_below hb6 cx0, cell_below hb6 cx1, cell_below hb6 cy0, cell_below hb6 cy1⟩
        | exact ⟨cx0, cx1, cy0, cy1⟩)
      (first
      | (go_at_call 139; refine (times_any _ _ _ _ _ (Good_pcs (by decide) _) (Good_pcs (by decide) _) (HSA5.out.below (Below.refl _ _).drew) (HSB5.out.below (Below.refl _ _).drew) HLA.out HLB.out).mono ?_; rintro e w6 ⟨vp, rfl, hsp, hb6⟩; rw [pv_pcs (by decide), pv_pcs (by decide)] at hsp; obtain ⟨A6, c6, rfl, -⟩ := id hsp)
      | (go_at_call 136; refine (close_num (sa != sb) (a.natAbs * b.natAbs) _ w6 (HE.out.below (below_trans hbw5.drew hb6)) hsp HLS.out).mono ?_; rintro e w7 ⟨rfl, hb7⟩))
    go_wp2
    go_ret
    refine ⟨?_, below_trans (below_trans hbw5.drew hb6) hb7⟩
    rw [sgd_mul HS1.out HS2.out]; rfl

/-- integer.Mul. -/
theorem Mul_itoa (a b : Int) (w : World) (hE : Env w) (ha : Lib.nDigits a.natAbs ≤ 400000000) (hb : Lib.nDigits b.natAbs ≤ 400000000) :
    Calls Tryz.prog 86 #[.string (tx (Lib.itoa a)), .string (tx (Lib.itoa b))] w (Ret (.string (tx (Lib.itoa (a * b)))) w) := by
  by_cases h : (Lib.itoa a).length ≤ 9 ∧ (Lib.itoa b).length ≤ 9
  · exact Mul_short a b w hE h.1 h.2
  · exact Mul_long a b w hE ha hb h
end Go.Proofs.Kl
/- integer.DivMod. -/
namespace Go.Proofs.Kl
open Go.RowKit Go.Shelf
/-- the magnitude of the quotient, and the remainder. -/
def dq (a b : Int) : Nat := if a < 0 ∧ 0 < a.natAbs % b.natAbs then a.natAbs / b.natAbs + 1 else a.natAbs / b.natAbs
def dr (a b : Int) : Nat := if a < 0 ∧ 0 < a.natAbs % b.natAbs then b.natAbs - a.natAbs % b.natAbs else a.natAbs % b.natAbs
theorem dr_lt {a b : Int} (hb : b ≠ 0) : dr a b < b.natAbs := by
  have := Nat.mod_lt a.natAbs (show 0 < b.natAbs by omega)
  unfold dr; split <;> omega
theorem dq_le {a b : Int} : dq a b ≤ a.natAbs / b.natAbs + 1 := by unfold dq; split <;> omega
theorem div_main {a b : Int} (hb : b ≠ 0) {sa sb : Bool} (h1 : sa = decide (a < 0)) (h2 : sb = decide (b < 0)) : sgd (sa != sb) (dq a b) = a / b ∧ (dr a b : Int) = a % b := by
  have e := Nat.mod_add_div a.natAbs b.natAbs
  have hlt := Nat.mod_lt a.natAbs (show 0 < b.natAbs by omega)
  have hr := dr_lt (a := a) hb
  have key : (dr a b : Int) + b * sgd (sa != sb) (dq a b) = a := by
    have e' : ((a.natAbs % b.natAbs : Nat) : Int) + (b.natAbs : Int) * ((a.natAbs / b.natAbs : Nat) : Int) = (a.natAbs : Int) := by
      have := congrArg (fun x : Nat => (x : Int)) e
      simpa using this
    unfold dr dq sgd
    generalize a.natAbs % b.natAbs = r at *
    generalize a.natAbs / b.natAbs = q at *
    cases sa <;> cases sb <;> simp at h1 h2 <;> simp only [bne_self_eq_false, Bool.false_eq_true, if_false, if_true, Bool.bne_true, Bool.not_false, Bool.bne_false]
    · rw [if_neg (by omega), if_neg (by omega)]
      have e1 : (a.natAbs : Int) = a := by omega
      have e2 : (b.natAbs : Int) = b := by omega
      rw [e1, e2] at e'; omega
    · rw [if_neg (by omega), if_neg (by omega)]
      have e1 : (a.natAbs : Int) = a := by omega
      have e2 : (b.natAbs : Int) = -b := by omega
      rw [e1, e2] at e'; grind
    · have e1 : (a.natAbs : Int) = -a := by omega
      have e2 : (b.natAbs : Int) = b := by omega
      by_cases h0 : 0 < r
      · rw [if_pos ⟨h1, h0⟩, if_pos ⟨h1, h0⟩]
        have e3 : ((b.natAbs - r : Nat) : Int) = b - r := by omega
        rw [e3]; rw [e1, e2] at e'; push_cast; grind
      · rw [if_neg (by omega), if_neg (by omega)]
        rw [e1, e2] at e'; have : r = 0 := by omega
        subst this; grind
    · have e1 : (a.natAbs : Int) = -a := by omega
      have e2 : (b.natAbs : Int) = -b := by omega
      by_cases h0 : 0 < r
      · rw [if_pos ⟨h1, h0⟩, if_pos ⟨h1, h0⟩]
        have e3 : ((b.natAbs - r : Nat) : Int) = -b - r := by omega
        rw [e3]; rw [e1, e2] at e'; push_cast; grind
      · rw [if_neg (by omega), if_neg (by omega)]
        rw [e1, e2] at e'; have : r = 0 := by omega
        subst this; grind
  rcases Int.lt_or_gt_of_ne hb with h | h
  · have := (Int.ediv_emod_unique' h).2 ⟨key, by omega, by omega⟩
    exact ⟨this.1.symm, this.2.symm⟩
  · have := (Int.ediv_emod_unique h).2 ⟨key, by omega, by omega⟩
    exact ⟨this.1.symm, this.2.symm⟩
theorem good_one : Good 1000000000 [1] := by
  have := Good_pcs (B := 1000000000) (by decide) 1
  rwa [← ptrim_single (by decide) (by decide), ptrim_of_Tr _ (by simp [Tr])] at this
theorem pcs_nil {B n : Nat} (hB : 2 ≤ B) : (pcs B n).length = 0 ↔ n = 0 := by
  constructor
  · intro h
    have := pv_pcs hB n
    rw [List.eq_nil_of_length_eq_zero h] at this; exact this.symm
  · intro h; subst h; rw [pcs_zero]; rfl
theorem pcs_div_len {a b : Nat} (h : Lib.nDigits a ≤ 400000000) : (pcs 1000000000 (a / b)).length < 1000000000 :=
  Nat.lt_of_le_of_lt (pcs_len (k := 100000000) (by decide) (Nat.le_trans (nDigits_mono (Nat.div_le_self _ _)) (by omega))) (by decide)
set_option maxHeartbeats 1000000 in
set_option maxRecDepth 100000 in
theorem DivMod_itoa (a b : Int) (w : World) (hE : Env w) (ha : Lib.nDigits a.natAbs ≤ 400000000) (hb : Lib.nDigits b.natAbs ≤ 400000000) (hb0 : b ≠ 0) :
    Calls Tryz.prog 85 #[.string (tx (Lib.itoa a)), .string (tx (Lib.itoa b))] w (Ret (.tuple #[.string (tx (Lib.itoa (a / b))), .string (tx (Lib.itoa (a % b))), .int .i64 0]) w) := by
  have HE := Lib.hid hE
  have HA := Lib.hid ha
  have HB := Lib.hid hb
  have HB0 := Lib.hid hb0
  have HLB := Lib.hid (show (pcs 1000000000 b.natAbs).length < 1000000000 from Nat.lt_of_le_of_lt (pcs_len (k := 100000000) (by decide) (by omega)) (by decide))
  have hne : (Lib.itoa b == [48]) = false := beq_false_of_ne (fun e => hb0 (itoa_inj (e.trans itoa_zero.symm)))
  clear hE ha hb hb0
  have hbl := Below.refl w.heap.size w
  go_enter Tryz.func85, Tryz.ntmps85
  go_wp2_with fail
  refine (open_itoa a w (by have := HA.out; omega)).mono ?_
  rintro e w2 ⟨va, rfl, hna, hb2⟩
  obtain ⟨ma, rfl, hsa⟩ := hna
  obtain ⟨A1, c1, rfl, -⟩ := id hsa
  go_wp2_with fail
  refine (open_itoa b w2 (by have := HB.out; omega)).mono ?_
  rintro e w3 ⟨vb, rfl, hnb, hb3⟩
  obtain ⟨mb, rfl, hsb⟩ := hnb
  obtain ⟨A2, c2, rfl, -⟩ := id hsb
  have hbx : Below w.heap.size w w3 := below_trans hb2 hb3
  have hbw := below_trans hbl hbx
  have HSA := Lib.hid (hsa.below hb3)
  have HSB := Lib.hid hsb
  clear hsa hsb hb2 hb3 hbx hbl
  clear w2
  obtain ⟨sa, hsa⟩ : ∃ sa, sa = decide (a < 0) := ⟨_, rfl⟩
  obtain ⟨sb, hsb⟩ : ∃ sb, sb = decide (b < 0) := ⟨_, rfl⟩
  rw [← hsa, ← hsb]
  have HS1 := Lib.hid hsa
  have HS2 := Lib.hid hsb
  clear hsa hsb
  have bx := World.alloc_heap_new w3 (.cells #[.bool sa, .slice A1 (pcs 1000000000 a.natAbs).length c1] 159)
  have bx5 := (halloc_old _ (.cells #[.bool sb, .slice A2 (pcs 1000000000 b.natAbs).length c2] 159) _ (Array.getElem?_eq_some_iff.1 bx).1).trans bx
  have by5 := World.alloc_heap_new (w3.alloc (.cells #[.bool sa, .slice A1 (pcs 1000000000 a.natAbs).length c1] 159)) (.cells #[.bool sb, .slice A2 (pcs 1000000000 b.natAbs).length c2] 159)
  have hb35 : Below w3.heap.size w3 ((w3.alloc (.cells #[.bool sa, .slice A1 (pcs 1000000000 a.natAbs).length c1] 159)).alloc (.cells #[.bool sb, .slice A2 (pcs 1000000000 b.natAbs).length c2] 159)) := ((Below.refl _ _).alloc (Nat.le_refl _) _).alloc (by simp) _
  rw [World.size_alloc] at by5
  generalize hW5 : (w3.alloc (.cells #[.bool sa, .slice A1 (pcs 1000000000 a.natAbs).length c1] 159)).alloc (.cells #[.bool sb, .slice A2 (pcs 1000000000 b.natAbs).length c2] 159) = W5 at hb35 bx5 by5
  have hbw5 := below_trans hbw hb35
  have HSA5 := Lib.hid (HSA.out.below hb35)
  have HSB5 := Lib.hid (HSB.out.below hb35)
  have cx0 : W5.cell? ⟨w3.heap.size, 0, none⟩ = some (.bool sa) := by rw [Lib.cell_of_heap bx5]; rfl
  have cx1 : W5.cell? ⟨w3.heap.size, 1, none⟩ = some (.slice A1 (pcs 1000000000 a.natAbs).length c1) := by rw [Lib.cell_of_heap bx5]; rfl
  have cy0 : W5.cell? ⟨w3.heap.size + 1, 0, none⟩ = some (.bool sb) := by rw [Lib.cell_of_heap by5]; rfl
  have cy1 : W5.cell? ⟨w3.heap.size + 1, 1, none⟩ = some (.slice A2 (pcs 1000000000 b.natAbs).length c2) := by rw [Lib.cell_of_heap by5]; rfl
  clear bx bx5 by5
  go_wp2_with fail
  clear hW5
  refine (divide_any _ _ _ _ W5 (Good_pcs (by decide) _) (Good_pcs (by decide) _) HSA5.out HSB5.out (by rw [pv_pcs (by decide)]; have := HB0.out; omega) (Nat.lt_of_le_of_lt (pcs_len (k := 50000000) (by decide) (by have := HA.out; omega)) (by decide)) (Nat.lt_of_le_of_lt (pcs_len (k := 50000000) (by decide) (by have := HB.out; omega)) (by decide))).mono ?_
  rintro e w6 ⟨vq, vr, rfl, hq, hr, hb6⟩
  rw [pv_pcs (by decide), pv_pcs (by decide)] at hq hr
  obtain ⟨A3, c3, rfl, -⟩ := id hq
  obtain ⟨A4, c4, rfl, -⟩ := id hr
  have dx0 := cell_below hb6 cx0
  have dy0 := cell_below hb6 cy0
  have dy1 := cell_below hb6 cy1
  have hb36 := below_trans hb35 hb6
  have HSB6 := Lib.hid (HSB.out.below hb36)
  have HQ := Lib.hid hq
  have HR := Lib.hid hr
  cases sa with
  | false =>
    have hna : ¬ a < 0 := by have := HS1.out; simpa using this
    have e1 : dq a b = a.natAbs / b.natAbs := if_neg (fun h => hna h.1)
    have e2 : dr a b = a.natAbs % b.natAbs := if_neg (fun h => hna h.1)
    rw [← e1] at HQ
    rw [← e2] at HR
    rw [← e1, ← e2]
    clear e1 e2
    go_wp2_with fail
    refine (close_num _ (dq a b) _ w6 (HE.out.below (below_trans hbw hb36)) HQ.out (by have := nDigits_mono (dq_le (a := a) (b := b)); have := nDigits_add (a.natAbs / b.natAbs) 1; have := nDigits_mono (Nat.div_le_self a.natAbs b.natAbs); have := HA.out; have h1 : Lib.nDigits 1 = 1 := Lib.nDigits_small (by decide); omega)).mono ?_
    rintro e w8 ⟨rfl, hb8⟩
    have dx8 := cell_below hb8 dx0
    have dy8 := cell_below hb8 dy0
    go_wp2_with fail
    refine (close_num false (dr a b) _ w8 ((HE.out.below (below_trans hbw hb36)).below hb8) (HR.out.below hb8) (by have := nDigits_mono (Nat.le_of_lt (dr_lt (a := a) HB0.out)); have := HB.out; omega)).mono ?_
    rintro e w9 ⟨rfl, hb9⟩
    go_wp2
    obtain ⟨m1, m2⟩ := div_main HB0.out HS1.out HS2.out
    simp only [Bool.false_bne] at m1
    have m3 : sgd false (dr a b) = a % b := by rw [← m2]; rfl
    rw [m1, m3]
    go_ret3
    exact ⟨rfl, below_trans (below_trans (below_trans hbw hb36) hb8) hb9⟩
  | true =>
    have hna : a < 0 := by have := HS1.out; simpa using this.symm
    by_cases h0 : 0 < a.natAbs % b.natAbs
    · have hlen : 0 < (pcs 1000000000 (a.natAbs % b.natAbs)).length := by have := (pcs_nil (B := 1000000000) (n := a.natAbs % b.natAbs) (by decide)); omega
      have e1 : dq a b = a.natAbs / b.natAbs + 1 := if_pos ⟨hna, h0⟩
      have e2 : dr a b = b.natAbs - a.natAbs % b.natAbs := if_pos ⟨hna, h0⟩
      have HL1 := Lib.hid (show (pcs 1000000000 (a.natAbs / b.natAbs)).length < 1000000000 ∧ [1].length < 1000000000 from ⟨pcs_div_len HA.out, by simp⟩)
      have HLE := Lib.hid (show pv 1000000000 (pcs 1000000000 (a.natAbs % b.natAbs)) ≤ pv 1000000000 (pcs 1000000000 b.natAbs) from by rw [pv_pcs (by decide), pv_pcs (by decide)]; exact Nat.le_of_lt (Nat.mod_lt _ (by have := HB0.out; omega)))
      have hz36 : w3.heap.size + 1 < w6.heap.size := World.block_lt_of_cell? w6 _ dy1
      go_upto_region 6 with fail
      go_cut [9, 10] (fun s9 s10 wi => ∃ (wq : World) (A : Option Addr) (n c : Nat) (A' : Option Addr) (n' c' : Nat), wq = wi ∧ s9 = .slice A n c ∧ s10 = .slice A' n' c' ∧ Sl .u64 wq (.slice A n c) (pcs 1000000000 (dq a b)) ∧ Sl .u64 wq (.slice A' n' c') (pcs 1000000000 (dr a b)) ∧ Below w6.heap.size w6 wq)
      case first =>
        go_region_with (first
          | (go_at_call 137; refine (plus_any (pcs 1000000000 (a.natAbs / b.natAbs)) [1] _ _ _ (Good_pcs (by decide) _) good_one ?_ ?_ HL1.out).mono ?_; (first | exact HQ.out.below ((Below.refl _ w6).alloc (Nat.le_refl _) _).drew | exact HQ.out.below ((below_trans (Below.refl _ w6).drew hb7).alloc (below_trans (Below.refl _ w6).drew hb7).size _) | exact HQ.out.below (below_trans ((Below.refl _ w6).alloc (Nat.le_refl _) _).drew hb7)); (first | exact Sl_one .u64 w6 165 1 | exact Sl_one .u64 w7 165 1 | exact (Sl_one .u64 w6 165 1).below hb7); rintro e w8 ⟨vp, rfl, hsp, hb8⟩; (first | (have dp1 := cell_below hb8 (cell_below ((Below.refl _ w6).alloc (Nat.le_refl _) (.cells #[.int .u64 1] 165)).drew dy1)) | skip); rw [pv_pcs (by decide)] at hsp; obtain ⟨A8, c8, rfl, -⟩ := id hsp)
          | (go_at_call 138; refine (minus_any (pcs 1000000000 b.natAbs) (pcs 1000000000 (a.natAbs % b.natAbs)) _ _ _ (Good_pcs (by decide) _) (Good_pcs (by decide) _) ?_ ?_ HLB.out HLE.out).mono ?_; (first | exact HSB6.out.below (Below.refl _ w6).drew | exact HSB6.out.below ((Below.refl _ w6).alloc (Nat.le_refl _) _).drew | exact HSB6.out.below (below_trans ((Below.refl _ w6).alloc (Nat.le_refl _) _).drew hb8)); (first | exact HR.out.below (Below.refl _ w6).drew | exact HR.out.below ((Below.refl _ w6).alloc (Nat.le_refl _) _).drew | exact HR.out.below (below_trans ((Below.refl _ w6).alloc (Nat.le_refl _) _).drew hb8)); rintro e w7 ⟨vm, rfl, hsm, hb7⟩; rw [pv_pcs (by decide), pv_pcs (by decide)] at hsm; obtain ⟨A7, c7, rfl, -⟩ := id hsm))
        all_goals
          have e3 : dq a b = a.natAbs / b.natAbs + pv 1000000000 [1] := e1
          go_wp2_with fail
          go_meet
          exact ⟨w7, _, _, _, _, _, _, rfl, rfl, rfl, by rw [e3]; exact hsp.below hb7, by rw [e2]; exact hsm, below_trans (below_trans ((Below.refl _ w6).alloc (Nat.le_refl _) _).drew hb8) hb7⟩
      case rest =>
        obtain ⟨wq, A, n, c, A', n', c', rfl, rfl, rfl, hq, hr, hbq⟩ := hcut
        have dxq := cell_below hbq dx0
        have dyq := cell_below hbq dy0
        have hbq3 := below_trans hb36 hbq
        clear e1 e2 hlen
        go_wp2_with fail
        refine (close_num _ (dq a b) _ wq (HE.out.below (below_trans hbw hbq3)) hq (by have := nDigits_mono (dq_le (a := a) (b := b)); have := nDigits_add (a.natAbs / b.natAbs) 1; have := nDigits_mono (Nat.div_le_self a.natAbs b.natAbs); have := HA.out; have h1 : Lib.nDigits 1 = 1 := Lib.nDigits_small (by decide); omega)).mono ?_
        rintro e w8 ⟨rfl, hb8⟩
        have dx8 := cell_below hb8 dxq
        have dy8 := cell_below hb8 dyq
        go_wp2_with fail
        refine (close_num false (dr a b) _ w8 ((HE.out.below (below_trans hbw hbq3)).below hb8) (hr.below hb8) (by have := nDigits_mono (Nat.le_of_lt (dr_lt (a := a) HB0.out)); have := HB.out; omega)).mono ?_
        rintro e w9 ⟨rfl, hb9⟩
        go_wp2
        obtain ⟨m1, m2⟩ := div_main HB0.out HS1.out HS2.out
        simp only [Bool.true_bne] at m1
        have m3 : sgd false (dr a b) = a % b := by rw [← m2]; rfl
        rw [m1, m3]
        go_ret3
        exact ⟨rfl, below_trans (below_trans (below_trans hbw hbq3) hb8) hb9⟩
    · have hlen : ¬ 0 < (pcs 1000000000 (a.natAbs % b.natAbs)).length := by have := (pcs_nil (B := 1000000000) (n := a.natAbs % b.natAbs) (by decide)); omega
      have e1 : dq a b = a.natAbs / b.natAbs := if_neg (fun h => h0 h.2)
      have e2 : dr a b = a.natAbs % b.natAbs := if_neg (fun h => h0 h.2)
      rw [← e2] at hlen
      rw [← e1] at HQ
      rw [← e2] at HR
      rw [← e1, ← e2]
      clear e1 e2
      go_wp2_with fail
      refine (close_num _ (dq a b) _ w6 (HE.out.below (below_trans hbw hb36)) HQ.out (by have := nDigits_mono (dq_le (a := a) (b := b)); have := nDigits_add (a.natAbs / b.natAbs) 1; have := nDigits_mono (Nat.div_le_self a.natAbs b.natAbs); have := HA.out; have h1 : Lib.nDigits 1 = 1 := Lib.nDigits_small (by decide); omega)).mono ?_
      rintro e w8 ⟨rfl, hb8⟩
      have dx8 := cell_below hb8 dx0
      have dy8 := cell_below hb8 dy0
      go_wp2_with fail
      refine (close_num false (dr a b) _ w8 ((HE.out.below (below_trans hbw hb36)).below hb8) (HR.out.below hb8) (by have := nDigits_mono (Nat.le_of_lt (dr_lt (a := a) HB0.out)); have := HB.out; omega)).mono ?_
      rintro e w9 ⟨rfl, hb9⟩
      go_wp2
      obtain ⟨m1, m2⟩ := div_main HB0.out HS1.out HS2.out
      simp only [Bool.true_bne] at m1
      have m3 : sgd false (dr a b) = a % b := by rw [← m2]; rfl
      rw [m1, m3]
      go_ret3
      exact ⟨rfl, below_trans (below_trans (below_trans hbw hb36) hb8) hb9⟩
end Go.Proofs.Kl
/- integer.Gcd. -/
namespace Go.Proofs.Kl
open Go.RowKit Go.Shelf
attribute [local go_sem] Instr.field part asAgg
theorem gcd_tmod {u v : Int} : Nat.gcd v.natAbs (u.tmod v).natAbs = Nat.gcd u.natAbs v.natAbs := by
  rw [Int.natAbs_tmod, Nat.gcd_comm, ← Nat.gcd_rec, Nat.gcd_comm]
theorem tmod_lt {u v : Int} (hv : v ≠ 0) : (u.tmod v).natAbs < v.natAbs := by
  rw [Int.natAbs_tmod]; exact Nat.mod_lt _ (by omega)
set_option maxHeartbeats 1000000 in
set_option maxRecDepth 100000 in
theorem Gcd_short (a b : Int) (w : World) (hE : Env w) (ha : (Lib.itoa a).length ≤ 18) (hb : (Lib.itoa b).length ≤ 18) :
    Calls Tryz.prog 84 #[.string (tx (Lib.itoa a)), .string (tx (Lib.itoa b))] w (Ret (.string (tx (Lib.decDigits (Nat.gcd a.natAbs b.natAbs)))) w) := by
  have ha' := natAbs_of_len ha (by decide)
  have hb' := natAbs_of_len hb (by decide)
  go_enter Tryz.func84, Tryz.ntmps84
  go_wp2_with fail
  refine (quick_short a 18 w ha (by decide)).mono ?_
  rintro e w1 ⟨rfl, hb1⟩
  go_wp2_with fail
  refine (quick_short b 18 w1 hb (by decide)).mono ?_
  rintro e w2 ⟨rfl, hb2⟩
  have hbl := below_trans hb1 hb2
  have HE := Lib.hid hE
  clear hE ha hb hb1 hb2
  go_wp2_with fail
  go_loopw [5, 7] (fun x y wr => ∃ (wq : World) (u v : Int), wq = wr ∧ x = .int .i64 u ∧ y = .int .i64 v ∧ u.natAbs < 10 ^ 18 ∧ v.natAbs < 10 ^ 18 ∧ Nat.gcd u.natAbs v.natAbs = Nat.gcd a.natAbs b.natAbs ∧ Below w.heap.size w wr)
    (fun _ y _ => (intOf y).natAbs)
  case atStart => exact ⟨_, a, b, rfl, rfl, rfl, ha', hb', rfl, hbl⟩
  case round =>
    obtain ⟨wr, u, v, rfl, rfl, rfl, hu, hv, hg, hbr⟩ := hrel
    have HG := Lib.hid hg
    have HU := Lib.hid hu
    have HV := Lib.hid hv
    clear hg hu hv ha' hb' hbl
    by_cases hv0 : v = 0
    · subst hv0
      have hmax : max u (-u) = ((u.natAbs : Nat) : Int) := by omega
      have HMAX := Lib.hid hmax
      have hb1 : -1000000000000000000 < u := by have := HU.out; omega
      have hb2 : u < 1000000000000000000 := by have := HU.out; omega
      clear hmax
      go_wp2_with fail
      rw [HMAX.out]
      refine (Of_any ((u.natAbs : Nat) : Int) (by omega) (by omega) wr (HE.out.below hbr)).mono ?_
      rintro e w4 ⟨rfl, hb4⟩
      rw [itoa_ofNat, show u.natAbs = Nat.gcd a.natAbs b.natAbs by rw [← HG.out]; simp]
      go_wp2
      go_ret
      exact ⟨rfl, below_trans hbr hb4⟩
    · have hm := tmod_lt (u := u) hv0
      have HM := Lib.hid hm
      have HM2 := Lib.hid (gcd_tmod (u := u) (v := v))
      clear hm
      go_wp2_with fail
      go_quiet (fail)
      go_wp2
      go_roundw
      case rel => exact ⟨_, v, u.tmod v, rfl, rfl, rfl, HV.out, Nat.lt_trans HM.out HV.out, HM2.out.trans HG.out, below_drewN hbr _⟩
      case measure => exact HM.out

theorem nDigits_gcd_le {a b k : Nat} (ha : Lib.nDigits a ≤ k) (hb : Lib.nDigits b ≤ k) : Lib.nDigits (Nat.gcd a b) ≤ k := by
  by_cases h : a = 0
  · subst h; simpa using hb
  · exact Nat.le_trans (nDigits_mono (Nat.gcd_le_left b (by omega))) ha
set_option maxHeartbeats 2000000 in
set_option maxRecDepth 100000 in
theorem Gcd_long (a b : Int) (w : World) (hE : Env w) (ha : Lib.nDigits a.natAbs ≤ 400000000) (hb : Lib.nDigits b.natAbs ≤ 400000000) (hab : ¬ ((Lib.itoa a).length ≤ 18 ∧ (Lib.itoa b).length ≤ 18)) :
    Calls Tryz.prog 84 #[.string (tx (Lib.itoa a)), .string (tx (Lib.itoa b))] w (Ret (.string (tx (Lib.decDigits (Nat.gcd a.natAbs b.natAbs)))) w) := by
  have HE := Lib.hid hE
  have HA := Lib.hid ha
  have HB := Lib.hid hb
  have HAB := Lib.hid hab
  clear hE ha hb hab
  go_enter Tryz.func84, Tryz.ntmps84
  go_upto_if 18 with (go_at_call 133; refine (quick_some a 18 _ (by decide)).mono ?_; rintro e w1 ⟨r1, ok1, rfl, h1, hb1⟩)
  go_cut [5, 6] (fun s5 s6 wi => Below w.heap.size w wi)
  case first =>
    go_wp2_with fail
    · refine (quick_some b 18 _ (by decide)).mono ?_
      rintro e w2 ⟨r2, ok2, rfl, h2, hb2⟩
      cases ok2
      · go_wp2_with fail
        go_meet
        exact below_trans hb1 hb2
      · exact absurd ⟨h1.1 (by assumption), h2.1 rfl⟩ HAB.out
    · go_meet
      exact hb1
  case rest =>
    have hbl := hcut
    generalize wc = wx at *
    go_wp2_with fail
    refine (open_itoa a wx (by have := HA.out; omega)).mono ?_
    rintro e w2 ⟨va, rfl, hna, hb2⟩
    obtain ⟨ma, rfl, hsa⟩ := hna
    obtain ⟨A1, c1, rfl, -⟩ := id hsa
    go_wp2_with fail
    refine (open_itoa b w2 (by have := HB.out; omega)).mono ?_
    rintro e w3 ⟨vb, rfl, hnb, hb3⟩
    obtain ⟨mb, rfl, hsb⟩ := hnb
    obtain ⟨A2, c2, rfl, -⟩ := id hsb
    have hbx : Below wx.heap.size wx w3 := below_trans hb2 hb3
    have hbw := below_trans hbl hbx
    have HSA := Lib.hid (hsa.below hb3)
    have HSB := Lib.hid hsb
    clear hsa hsb hb2 hb3 hcut hbx hbl hb1 h1
    clear wx wc w2 w1
    go_wp2_with fail
    go_loopg [9, 10, 11, 12] b.natAbs (fun k x y s11 s12 wr => ∃ (wq : World) (u : Nat) (A : Option Addr) (n c : Nat) (A' : Option Addr) (n' c' : Nat), wq = wr ∧ x = .slice A n c ∧ y = .slice A' n' c' ∧ n' = (pcs 1000000000 k).length ∧ Sl .u64 wq (.slice A n c) (pcs 1000000000 u) ∧ Sl .u64 wq (.slice A' n' c') (pcs 1000000000 k) ∧ Lib.nDigits u ≤ 400000000 ∧ Lib.nDigits k ≤ 400000000 ∧ Nat.gcd u k = Nat.gcd a.natAbs b.natAbs ∧ Below w.heap.size w wq)
    case atStart => exact ⟨_, a.natAbs, _, _, _, _, _, _, rfl, rfl, rfl, rfl, HSA.out, HSB.out, HA.out, HB.out, rfl, hbw⟩
    case round =>
      obtain ⟨wr, u, A, n, c, A', n', c', rfl, rfl, rfl, rfl, hsu, hsv, hdu, hdv, hg, hbr⟩ := hrel
      have HSU := Lib.hid hsu
      have HSV := Lib.hid hsv
      have HDU := Lib.hid hdu
      have HDV := Lib.hid hdv
      have HG := Lib.hid hg
      clear hsu hsv hdu hdv hg HSA HSB hbw
      by_cases hv : gk = 0
      · subst hv
        have hl0 : (pcs 1000000000 0).length = 0 := by rw [pcs_zero]; rfl
        go_wp2_with fail
        refine (close_num false u _ wr (HE.out.below hbr) HSU.out (by have := HDU.out; omega)).mono ?_
        rintro e w4 ⟨rfl, hb4⟩
        rw [show sgd false u = ((Nat.gcd a.natAbs b.natAbs : Nat) : Int) by rw [← HG.out]; simp [sgd], itoa_ofNat]
        go_wp2
        go_ret
        exact ⟨rfl, below_trans hbr hb4⟩
      · have hl0 : 0 < (pcs 1000000000 gk).length := by have := (pcs_nil (B := 1000000000) (n := gk) (by decide)); omega
        have HV := Lib.hid hv
        go_wp2_with fail
        refine (divide_any _ _ _ _ wr (Good_pcs (by decide) _) (Good_pcs (by decide) _) HSU.out HSV.out (by rw [pv_pcs (by decide)]; have := HV.out; omega) (Nat.lt_of_le_of_lt (pcs_len (k := 50000000) (by decide) (by have := HDU.out; omega)) (by decide)) (Nat.lt_of_le_of_lt (pcs_len (k := 50000000) (by decide) (by have := HDV.out; omega)) (by decide))).mono ?_
        rintro e w6 ⟨vq, vr, rfl, hq, hr, hb6⟩
        rw [pv_pcs (by decide), pv_pcs (by decide)] at hr
        clear hq
        obtain ⟨A4, c4, rfl, -⟩ := id hr
        have HR := Lib.hid hr
        clear hr
        go_wp2
        go_roundg (u % gk)
        case rel =>
          exact ⟨_, gk, _, _, _, _, _, _, rfl, rfl, rfl, rfl, HSV.out.below hb6, HR.out, HDV.out, Nat.le_trans (nDigits_mono (Nat.mod_le _ _)) HDU.out, by rw [← HG.out, Nat.gcd_comm gk, ← Nat.gcd_rec, Nat.gcd_comm], below_trans hbr hb6⟩
        case measure => exact Nat.mod_lt _ (by have := HV.out; omega)

/-- integer.Gcd. -/
theorem Gcd_itoa (a b : Int) (w : World) (hE : Env w) (ha : Lib.nDigits a.natAbs ≤ 400000000) (hb : Lib.nDigits b.natAbs ≤ 400000000) :
    Calls Tryz.prog 84 #[.string (tx (Lib.itoa a)), .string (tx (Lib.itoa b))] w (Ret (.string (tx (Lib.decDigits (Nat.gcd a.natAbs b.natAbs)))) w) := by
  by_cases h : (Lib.itoa a).length ≤ 18 ∧ (Lib.itoa b).length ≤ 18
  · exact Gcd_short a b w hE h.1 h.2
  · exact Gcd_long a b w hE ha hb h
end Go.Proofs.Kl
/- integer.Check at any text. -/
namespace Go.Proofs.Kl
open Go.RowKit Go.Shelf
/-- a text of a right integer. -/
def chk (s : List UInt8) : Bool :=
  match Lib.trimPrefix s [45] with
  | [] => false
  | c :: r => decide (r.length < 200) && !(c == 48 && (!r.isEmpty || Lib.hasPrefix s [45])) && (c :: r).all isD
def chkR (s : List UInt8) : Int := if chk s then 0 else 2
theorem tx_get (t : List UInt8) (k : Nat) (h : k < (tx t).size) : (tx t)[k]'h = t.getD k 0 := by
  have h' : k < t.length := by simpa [ByteArray.size] using h
  simp only [List.getD, List.getElem?_eq_getElem h', Option.getD_some]
  rfl
theorem isD_iff (c : UInt8) : isD c = true ↔ 48 ≤ c.toNat ∧ c.toNat ≤ 57 := by simp [isD]
set_option maxHeartbeats 2000000 in
set_option maxRecDepth 100000 in
theorem Check_loop (s t : List UInt8) (m : Bool) (c : UInt8) (r : List UInt8) (w : World) (h1 : Lib.trimPrefix s [45] = t) (h2 : Lib.hasPrefix s [45] = m) (ht : t = c :: r) :
    Calls Tryz.prog 117 #[.string (tx s)] w fun e w' => e = .returned (.int .i64 (chkR s)) ∧ w' = w := by
  have H1 := Lib.hid h1
  have H2 := Lib.hid h2
  have HT := Lib.hid ht
  have hc : chk s = (decide (r.length < 200) && !(c == 48 && (!r.isEmpty || m)) && (c :: r).all isD) := by unfold chk; rw [h1, ht, h2]
  have hne : (t == []) = false := by rw [ht]; rfl
  have hlen : t.length = r.length + 1 := by rw [ht]; rfl
  have HC := Lib.hid hc
  clear hc h1 h2 ht
  go_enter Tryz.func117, Tryz.ntmps117
  go_wp2_with fail
  refine (Tryz.strings_CutPrefix _ _ _).mono ?_
  simp only
  rw [H1.out, H2.out]
  rintro e w' ⟨rfl, rfl⟩
  go_upto_region 2 with fail
  obtain ⟨bd, hbd⟩ : ∃ bd, bd = !(decide (r.length < 200) && !(c == 48 && (!r.isEmpty || m))) := ⟨_, rfl⟩
  have HBD := Lib.hid hbd
  clear hbd
  go_cut [30] (fun s30 wi => s30 = .bool bd ∧ wi = w')
  case first =>
    go_wp2_with fail
    all_goals go_meet
    all_goals
      refine ⟨?_, rfl⟩
      rw [HBD.out]
      have q1 : decide (r.length < 200) = !decide (200 < (r.length : Int) + 1) := by rw [← decide_not]; exact decide_eq_decide.2 (by omega)
      have q2 : (!r.isEmpty) = decide (1 < (r.length : Int) + 1) := by cases r <;> simp; omega
      have q3 : (c == 48) = decide ((((tx t)[0]'(by show 0 < t.length; omega)).toNat : Int) = 48) := by
        rw [tx_get, HT.out]
        simp only [List.getD_cons_zero]
        by_cases h : c = 48
        · subst h; rfl
        · rw [beq_false_of_ne h]; symm; rw [decide_eq_false_iff_not]; intro e; exact h (by rw [← UInt8.ofNat_toNat (x := c), show c.toNat = 48 by omega]; rfl)
      rw [q1, q2, q3]
      congr 1
      simp_all
  case rest =>
    obtain ⟨rfl, rfl⟩ := hcut
    cases bd
    · have hall : (decide (r.length < 200) && !(c == 48 && (!r.isEmpty || m))) = true := by have := HBD.out; revert this; cases (decide (r.length < 200) && !(c == 48 && (!r.isEmpty || m))) <;> simp
      have hR : chkR s = if (c :: r).all isD then 0 else 2 := by unfold chkR; rw [HC.out, hall, Bool.true_and]
      have HR := Lib.hid hR
      have hr200 : r.length < 200 := by simp at hall; exact hall.1
      clear hR hall
      go_wp2_with fail
      go_loopw [5, 33] (fun s5 i wr => ∃ k : Nat, k ≤ t.length ∧ i = .int .i64 k ∧ (∀ j, j < k → isD (t.getD j 0) = true) ∧ wr = wc) (fun _ i _ => ((r.length : Int) + 1 - intOf i).toNat)
      case atStart => exact ⟨0, Nat.zero_le _, rfl, fun j h => by omega, rfl⟩
      case round =>
        obtain ⟨k, hk, rfl, hd, rfl⟩ := hrel
        have HD := Lib.hid hd
        clear hd
        by_cases hlt : k < t.length
        · have hget := tx_get t k (by show k < t.length; exact hlt)
          have hlt' : k < r.length + 1 := by omega
          by_cases hdg : isD (t.getD k 0) = true
          · have h48 := (isD_iff _).1 hdg
            rw [← hget] at h48
            have n1 : ¬ (((tx t)[k]'(by show k < t.length; exact hlt)).toNat : Int) < 48 := by omega
            have n2 : ¬ 57 < (((tx t)[k]'(by show k < t.length; exact hlt)).toNat : Int) := by omega
            have HDG := Lib.hid hdg
            clear h48 hget hdg
            go_wp2_with fail
            refine ⟨⟨k + 1, by omega, by simp, fun j hj => ?_, trivial⟩, ?_⟩
            · rcases Nat.lt_succ_iff_lt_or_eq.1 hj with h | rfl
              · exact HD.out j h
              · exact HDG.out
            · simp only [intOf]; omega
          · have hf : chkR s = 2 := by
              rw [HR.out, if_neg]
              intro h
              rw [List.all_eq_true] at h
              have hm : t.getD k 0 ∈ c :: r := by
                rw [← HT.out]
                simp [List.getD, hlt]
              exact hdg (h _ hm)
            have HF := Lib.hid hf
            have h48 : ¬ (48 ≤ (t.getD k 0).toNat ∧ (t.getD k 0).toNat ≤ 57) := fun h => hdg ((isD_iff _).2 h)
            rw [← hget] at h48
            clear hget hdg hf
            by_cases n1 : (((tx t)[k]'(by show k < t.length; exact hlt)).toNat : Int) < 48
            · clear h48
              go_wp2_with fail
              go_ret
              exact ⟨by rw [HF.out]; rfl, rfl⟩
            · have n2 : 57 < (((tx t)[k]'(by show k < t.length; exact hlt)).toNat : Int) := by omega
              clear h48
              go_wp2_with fail
              go_ret
              exact ⟨by rw [HF.out]; rfl, rfl⟩
        · have hlt' : ¬ k < r.length + 1 := by omega
          have hf : chkR s = 0 := by
            rw [HR.out, if_pos]
            rw [List.all_eq_true]
            intro x hx
            rw [← HT.out] at hx
            obtain ⟨j, hj, rfl⟩ := List.getElem_of_mem hx
            have := HD.out j (by omega)
            simpa [List.getD, hj] using this
          have HF := Lib.hid hf
          clear hf
          go_wp2_with fail
          go_ret
          exact ⟨by rw [HF.out]; rfl, rfl⟩
    · have hR : chkR s = 2 := by
        have h : (decide (r.length < 200) && !(c == 48 && (!r.isEmpty || m))) = false := by have := HBD.out; revert this; cases (decide (r.length < 200) && !(c == 48 && (!r.isEmpty || m))) <;> simp
        unfold chkR; rw [HC.out, h]; rfl
      have HR := Lib.hid hR
      clear hR
      go_wp2_with fail
      go_ret
      exact ⟨by rw [HR.out]; rfl, rfl⟩

set_option maxRecDepth 100000 in
/-- integer.Check at any text. -/
theorem Check_any (s : List UInt8) (w : World) : Calls Tryz.prog 117 #[.string (tx s)] w fun e w' => e = .returned (.int .i64 (chkR s)) ∧ w' = w := by
  cases ht : Lib.trimPrefix s [45] with
  | cons c r => exact Check_loop s _ _ c r w ht rfl rfl
  | nil =>
    have hc : chkR s = 2 := by unfold chkR chk; rw [ht]; rfl
    rw [hc]
    go_enter Tryz.func117, Tryz.ntmps117
    go_wp2_with fail
    refine (Tryz.strings_CutPrefix _ _ _).mono ?_
    simp only
    rw [ht]
    rintro e w' ⟨rfl, rfl⟩
    go_wp2_with fail
    go_ret
    exact ⟨rfl, rfl⟩
end Go.Proofs.Kl
/- integer.Compare; which texts are right. -/
namespace Go.Proofs.Kl
open Go.RowKit Go.Shelf

theorem compare_digits : ∀ (a b : List UInt8), a.length = b.length → (∀ c ∈ a, isD c = true) → (∀ c ∈ b, isD c = true) → Lib.compareBytes a b = cmpN (dv a) (dv b)
  | [], [], _, _, _ => by rw [Lib.compareBytes, cmpN_eq rfl]
  | [], _ :: _, h, _, _ => by simp at h
  | _ :: _, [], h, _, _ => by simp at h
  | x :: a, y :: b, h, ha, hb => by
    have hl : a.length = b.length := by simpa using h
    have hx := ha x (List.mem_cons_self ..)
    have hy := hb y (List.mem_cons_self ..)
    have ha' : ∀ c ∈ a, isD c = true := fun c hc => ha c (List.mem_cons_of_mem _ hc)
    have hb' : ∀ c ∈ b, isD c = true := fun c hc => hb c (List.mem_cons_of_mem _ hc)
    rw [Lib.compareBytes]
    by_cases h1 : x < y
    · rw [if_pos h1, cmpN_lt (dv_append_lt ha' hl x y hx hy (UInt8.lt_iff_toNat_lt.1 h1))]
    · rw [if_neg h1]
      by_cases h2 : y < x
      · rw [if_pos h2, cmpN_gt (dv_append_lt hb' hl.symm y x hy hx (UInt8.lt_iff_toNat_lt.1 h2))]
      · rw [if_neg h2, compare_digits a b hl ha' hb']
        have e : x = y := UInt8.toNat_inj.1 (by rw [UInt8.lt_iff_toNat_lt] at h1 h2; omega)
        subst e
        rw [dv_cons, dv_cons, hl]
        unfold cmpN
        split <;> split <;> (try split) <;> (try split) <;> omega
theorem len_lt_of {u v : Nat} (h : (Lib.decDigits u).length < (Lib.decDigits v).length) : u < v := by
  rw [Lib.decDigits_length, Lib.decDigits_length] at h
  rcases Nat.lt_or_ge u v with h1 | h1
  · exact h1
  · have := nDigits_mono h1; omega
/-- the comparison of two integers. -/
def cmpI (a b : Int) : Int := if a < b then -1 else if b < a then 1 else 0
theorem sgn_cases (a : Int) : (a = 0 ∧ sgn a = 0) ∨ (a < 0 ∧ sgn a = -1) ∨ (0 < a ∧ sgn a = 1) := by
  unfold sgn
  by_cases h : a = 0
  · simp [h]
  · by_cases h2 : a < 0 <;> simp [h, h2] <;> omega
theorem cmpI_sgn_lt {a b : Int} (h : sgn a < sgn b) : cmpI a b = -1 := by
  rcases sgn_cases a with ⟨h1, h2⟩ | ⟨h1, h2⟩ | ⟨h1, h2⟩ <;> rcases sgn_cases b with ⟨h3, h4⟩ | ⟨h3, h4⟩ | ⟨h3, h4⟩ <;> rw [h2, h4] at h <;> unfold cmpI <;> first | omega | (rw [if_pos (by omega)])
theorem cmpI_sgn_gt {a b : Int} (h : sgn b < sgn a) : cmpI a b = 1 := by
  rcases sgn_cases a with ⟨h1, h2⟩ | ⟨h1, h2⟩ | ⟨h1, h2⟩ <;> rcases sgn_cases b with ⟨h3, h4⟩ | ⟨h3, h4⟩ | ⟨h3, h4⟩ <;> rw [h2, h4] at h <;> unfold cmpI <;> first | omega | (rw [if_neg (by omega), if_pos (by omega)])
theorem cmpI_same {a b : Int} (h : sgn a = sgn b) : cmpI a b = sgn a * cmpN a.natAbs b.natAbs := by
  rcases sgn_cases a with ⟨h1, h2⟩ | ⟨h1, h2⟩ | ⟨h1, h2⟩ <;> rcases sgn_cases b with ⟨h3, h4⟩ | ⟨h3, h4⟩ | ⟨h3, h4⟩ <;> rw [h2, h4] at h <;> rw [h2] <;> unfold cmpI cmpN <;> first | omega | (split <;> split <;> (try split) <;> (try split) <;> omega)
set_option maxHeartbeats 1000000 in
set_option maxRecDepth 100000 in
theorem Compare_itoa (a b : Int) (w : World) (ha : Lib.nDigits a.natAbs ≤ 900000000) (hb : Lib.nDigits b.natAbs ≤ 900000000) :
    Calls Tryz.prog 118 #[.string (tx (Lib.itoa a)), .string (tx (Lib.itoa b))] w fun e w' => e = .returned (.int .i64 (cmpI a b)) ∧ w' = w := by
  have hx := sgn_cases a
  have hy := sgn_cases b
  have hx1 : -1 ≤ sgn a ∧ sgn a ≤ 1 := by omega
  have hy1 : -1 ≤ sgn b ∧ sgn b ≤ 1 := by omega
  have ta := trimMinus_itoa a
  have tb := trimMinus_itoa b
  have la : (Lib.decDigits a.natAbs).length ≤ 900000000 := by rw [Lib.decDigits_length]; exact ha
  have lb : (Lib.decDigits b.natAbs).length ≤ 900000000 := by rw [Lib.decDigits_length]; exact hb
  have TA := Lib.hid ta
  have TB := Lib.hid tb
  obtain ⟨r, hr⟩ : ∃ r, r = cmpI a b := ⟨_, rfl⟩
  rw [← hr]
  obtain ⟨x, hxx⟩ : ∃ x, x = sgn a := ⟨_, rfl⟩
  obtain ⟨y, hyy⟩ : ∃ y, y = sgn b := ⟨_, rfl⟩
  rw [← hxx] at hx1
  rw [← hyy] at hy1
  have HR := Lib.hid hr
  have HX := Lib.hid hxx
  have HY := Lib.hid hyy
  clear hx hy ta tb ha hb hr hxx hyy
  go_enter Tryz.func118, Tryz.ntmps118
  go_wp2_with fail
  refine (Sign_itoa a w).mono ?_
  rw [← HX.out]
  rintro e w' ⟨rfl, rfl⟩
  go_wp2_with fail
  refine (Sign_itoa b w').mono ?_
  rw [← HY.out]
  rintro e w ⟨rfl, rfl⟩
  by_cases hne : x = y
  · subst hne
    go_wp2_with fail
    refine (Tryz.strings_TrimPrefix _ _ _).mono ?_
    simp only
    rw [TA.out]
    rintro e w' ⟨rfl, rfl⟩
    go_wp2_with fail
    refine (Tryz.strings_TrimPrefix _ _ _).mono ?_
    simp only
    rw [TB.out]
    rintro e w ⟨rfl, rfl⟩
    have hsame := cmpI_same (HX.out.symm.trans HY.out)
    rw [← HR.out, ← HX.out] at hsame
    have HSAME := Lib.hid hsame
    clear hsame
    by_cases hl : (Lib.decDigits a.natAbs).length = (Lib.decDigits b.natAbs).length
    · have hcmp := compare_digits _ _ hl (decDigits_isD _) (decDigits_isD _)
      rw [dv_decDigits, dv_decDigits] at hcmp
      have HCMP := Lib.hid hcmp
      clear hcmp
      go_wp2_with fail
      refine (Tryz.strings_Compare _ _ _).mono ?_
      simp only
      rw [HCMP.out]
      rintro e w' ⟨rfl, rfl⟩
      have hc : -1 ≤ cmpN a.natAbs b.natAbs ∧ cmpN a.natAbs b.natAbs ≤ 1 := by unfold cmpN; split <;> (try split) <;> omega
      have hm : -1 ≤ x * cmpN a.natAbs b.natAbs ∧ x * cmpN a.natAbs b.natAbs ≤ 1 := by rw [← HSAME.out, HR.out]; unfold cmpI; split <;> (try split) <;> omega
      go_wp2_with fail
      go_ret
      exact ⟨by rw [HSAME.out]; rfl, rfl⟩
    · by_cases hlt : (Lib.decDigits a.natAbs).length < (Lib.decDigits b.natAbs).length
      · have hv := len_lt_of hlt
        go_wp2_with fail
        go_ret
        exact ⟨by rw [HSAME.out, cmpN_lt hv]; simp, rfl⟩
      · have hv := len_lt_of (u := b.natAbs) (v := a.natAbs) (by omega)
        go_wp2_with fail
        go_ret
        exact ⟨by rw [HSAME.out, cmpN_gt hv]; simp, rfl⟩
  · by_cases hlt : x < y
    · have h : r = -1 := by rw [HR.out]; exact cmpI_sgn_lt (by rw [← HX.out, ← HY.out]; exact hlt)
      have H := Lib.hid h
      clear h
      go_wp2_with fail
      go_ret
      exact ⟨by rw [H.out]; rfl, rfl⟩
    · have h : r = 1 := by rw [HR.out]; exact cmpI_sgn_gt (by rw [← HX.out, ← HY.out]; omega)
      have H := Lib.hid h
      clear h
      go_wp2_with fail
      go_ret
      exact ⟨by rw [H.out]; rfl, rfl⟩

theorem itoa_neg_nat {u : Nat} (h : 0 < u) : Lib.itoa (-(u : Int)) = 45 :: Lib.decDigits u := by
  rw [itoa_neg (by omega)]; congr 2; omega
/-- a text is right if and only if it is that of an integer of at most 200 digits. -/
theorem chk_iff (s : List UInt8) : chk s = true ↔ ∃ n : Int, s = Lib.itoa n ∧ Lib.nDigits n.natAbs ≤ 200 := by
  constructor
  · intro h
    unfold chk at h
    cases ht : Lib.trimPrefix s [45] with
    | nil => rw [ht] at h; simp at h
    | cons c r =>
      rw [ht] at h
      simp only [Bool.and_eq_true, decide_eq_true_eq] at h
      obtain ⟨⟨hl, hz⟩, hd⟩ := h
      have hdec : isDec (c :: r) = true := by
        unfold isDec
        rw [hd]
        simp only [List.isEmpty_cons, Bool.not_false, Bool.and_self, Bool.true_and, List.head?_cons, List.length_cons]
        by_cases hc : c = 48
        · subst hc; simp at hz; simp [hz.1]
        · simp [hc]
      have he := decDigits_dv _ _ rfl hdec
      have hlen : Lib.nDigits (dv (c :: r)) ≤ 200 := by rw [← Lib.decDigits_length, he]; simp; omega
      cases hm : Lib.hasPrefix s [45] with
      | false =>
        unfold Lib.trimPrefix at ht
        rw [hm] at ht
        simp at ht
        exact ⟨(dv (c :: r) : Nat), by rw [itoa_ofNat, he, ht], by simpa using hlen⟩
      | true =>
        rw [hm] at hz
        have hc : c ≠ 48 := by intro e; subst e; simp at hz
        have hpos : 0 < dv (c :: r) := by
          rcases Nat.eq_zero_or_pos (dv (c :: r)) with h0 | h0
          · rw [h0, decDigits_zero] at he
            injection he with he _; exact absurd he.symm hc
          · exact h0
        unfold Lib.trimPrefix at ht
        rw [hm] at ht
        simp at ht
        have hs : s = 45 :: c :: r := by
          unfold Lib.hasPrefix at hm
          cases s with
          | nil => simp at hm
          | cons x q =>
            simp [List.isPrefixOf] at hm
            simp at ht
            rw [hm, ht]
        exact ⟨-(dv (c :: r) : Nat), by rw [itoa_neg_nat hpos, he, hs], by simpa using hlen⟩
  · rintro ⟨n, rfl, hn⟩
    unfold chk
    rw [trimMinus_itoa, hasMinus_itoa]
    have hl : (Lib.decDigits n.natAbs).length ≤ 200 := by rw [Lib.decDigits_length]; exact hn
    have hd := decDigits_isD n.natAbs
    cases ht : Lib.decDigits n.natAbs with
    | nil => exact absurd ht (decDigits_ne_nil _)
    | cons c r =>
      rw [ht] at hl hd
      simp at hl
      have hall : (c :: r).all isD = true := List.all_eq_true.2 hd
      simp only [hall, Bool.and_true, Bool.and_eq_true, decide_eq_true_eq]
      refine ⟨by omega, ?_⟩
      by_cases h0 : n.natAbs = 0
      · rw [h0, decDigits_zero] at ht
        injection ht with e1 e2
        subst e1 e2
        have : ¬ n < 0 := by omega
        simp [this]
      · obtain ⟨c', r', e, hc'⟩ := decDigits_head n.natAbs (by omega)
        rw [ht] at e
        injection e with e1 e2
        subst e1 e2
        simp [hc']
theorem chkR_itoa {n : Int} (h : Lib.nDigits n.natAbs ≤ 200) : chkR (Lib.itoa n) = 0 := by
  unfold chkR; rw [if_pos ((chk_iff _).2 ⟨n, rfl, h⟩)]
end Go.Proofs.Kl
/- rational: join, lowest, Parts, New. -/
namespace Go.Proofs.Kl
open Go.RowKit Go.Shelf

theorem tx_append (a b : List UInt8) : tx a ++ tx b = tx (a ++ b) := by
  apply ByteArray.ext
  simp [ByteArray.data_append]
theorem tx_slash (a b : List UInt8) : tx a ++ tx [47] ++ tx b = tx (a ++ 47 :: b) := by
  rw [tx_append, tx_append]; simp
set_option maxRecDepth 100000 in
theorem join_rt (q : Rat) (w : World) (h1 : Lib.nDigits q.num.natAbs ≤ 900000000) (h2 : Lib.nDigits q.den ≤ 900000000) :
    Calls Tryz.prog 149 #[.string (tx (Lib.itoa q.num)), .string (tx (Lib.decDigits q.den))] w fun e w' => e = .returned (.string (tx (rt q))) ∧ w' = w := by
  have l1 := itoa_len q.num
  have l2 := Lib.decDigits_length q.den
  by_cases hd : q.den = 1
  · rw [rt_whole hd, hd, decDigits_one]
    go_enter Tryz.func149, Tryz.ntmps149
    go_wp2
    go_ret
    exact ⟨rfl, rfl⟩
  · rw [rt_part hd]
    have hne : (Lib.decDigits q.den == [49]) = false := beq_false_of_ne (fun e => hd (decDigits_inj (e.trans decDigits_one.symm)))
    go_enter Tryz.func149, Tryz.ntmps149
    go_wp2
    go_ret
    exact ⟨by rw [← tx_slash]; rfl, rfl⟩

theorem divInt_flip {n d : Int} (hd : d < 0) : Rat.divInt n d = mkRat (-n) (-d).toNat := by
  rw [← Rat.neg_divInt_neg, show -d = (((-d).toNat : Nat) : Int) by omega, Rat.divInt_ofNat]; rfl
theorem divInt_pos {n d : Int} (hd : 0 < d) : Rat.divInt n d = mkRat n d.toNat := by
  conv => lhs; rw [show d = ((d.toNat : Nat) : Int) by omega]
  rw [Rat.divInt_ofNat]
set_option maxHeartbeats 1000000 in
set_option maxRecDepth 100000 in
/-- rational.lowest: the quotient of two integers. -/
theorem lowest_any (n0 d0 : Int) (w : World) (hE : Env w) (hd0 : d0 ≠ 0) (h1 : Lib.nDigits n0.natAbs ≤ 400000000) (h2 : Lib.nDigits d0.natAbs ≤ 400000000) :
    Calls Tryz.prog 110 #[.string (tx (Lib.itoa n0)), .string (tx (Lib.itoa d0))] w (Ret (.string (tx (rt (Rat.divInt n0 d0)))) w) := by
  obtain ⟨n, hn⟩ : ∃ n, n = if d0 < 0 then -n0 else n0 := ⟨_, rfl⟩
  obtain ⟨d, hdd⟩ : ∃ d, d = d0.natAbs := ⟨_, rfl⟩
  have hd : 0 < d := by omega
  obtain ⟨q, hq⟩ : ∃ q, q = mkRat n d := ⟨_, rfl⟩
  have hdiv : Rat.divInt n0 d0 = q := by
    rw [hq, hn, hdd]
    by_cases h : d0 < 0
    · rw [divInt_flip h, if_pos h]; congr 1; omega
    · rw [divInt_pos (by omega), if_neg h]; congr 1; omega
  have h1' : Lib.nDigits n.natAbs ≤ 400000000 := by rw [hn]; split <;> simpa using h1
  have h2' : Lib.nDigits d ≤ 400000000 := by rw [hdd]; exact h2
  rw [hdiv]
  obtain ⟨e1, e2⟩ := divInt_num_den_pos (n := n) hd
  rw [← hq] at e1 e2
  have hg0 : 0 < Nat.gcd n.natAbs d := Nat.gcd_pos_of_pos_right _ hd
  have hsg : sgn d0 < 0 ↔ d0 < 0 := by unfold sgn; split <;> (try split) <;> omega
  have E1 := Lib.hid e1
  have E2 := Lib.hid e2
  have HE := Lib.hid hE
  have HN0 := Lib.hid h1
  have HD0 := Lib.hid h2
  have HN := Lib.hid h1'
  have HD := Lib.hid h2'
  have HSG := Lib.hid hsg
  have HNN := Lib.hid hn
  have HDD := Lib.hid hdd
  have HGD := Lib.hid (nDigits_gcd_le h1' h2')
  have HQN := Lib.hid (show Lib.nDigits q.num.natAbs ≤ 900000000 from by rw [e1]; exact Nat.le_trans (nDigits_mono (Int.natAbs_ediv_le_natAbs _ _)) (by omega))
  have HQD := Lib.hid (show Lib.nDigits q.den ≤ 900000000 from by rw [e2]; exact Nat.le_trans (nDigits_mono (Nat.div_le_self _ _)) (by omega))
  have HG0 := Lib.hid hg0
  clear e1 e2 hE h1 h2 h1' h2' hq hsg hn hdd hdiv hd hg0
  go_enter Tryz.func110, Tryz.ntmps110
  go_upto_if 8 with (go_at_call 112; refine (Sign_itoa _ _).mono ?_; rintro e w' ⟨rfl, rfl⟩)
  go_cut [0, 1] (fun s0 s1 wi => s0 = .string (tx (Lib.itoa n)) ∧ s1 = .string (tx (Lib.itoa d)) ∧ wi = w')
  case first =>
    by_cases hneg : d0 < 0
    · have hs : sgn d0 < 0 := HSG.out.2 hneg
      go_wp2_with fail
      refine (Neg_itoa n0 w' (by have := HN0.out; omega)).mono ?_
      rintro e w'' ⟨rfl, rfl⟩
      go_wp2_with fail
      refine (Neg_itoa d0 w'' (by have := HD0.out; omega)).mono ?_
      rintro e w' ⟨rfl, rfl⟩
      go_wp2_with fail
      go_meet
      exact ⟨by rw [HNN.out, if_pos hneg], by rw [show ((d : Nat) : Int) = -d0 by have := HDD.out; omega], rfl⟩
    · have hs : ¬ sgn d0 < 0 := fun h => hneg (HSG.out.1 h)
      go_wp2_with fail
      go_meet
      exact ⟨by rw [HNN.out, if_neg (by omega)], by rw [show ((d : Nat) : Int) = d0 by have := HDD.out; omega], rfl⟩
  case rest =>
  obtain ⟨rfl, rfl, rfl⟩ := hcut
  generalize wc = w at *
  go_wp2_with fail
  refine (Gcd_itoa n d w HE.out HN.out (by simpa using HD.out)).mono ?_
  rw [Int.natAbs_natCast]
  rintro e w1 ⟨rfl, hb1⟩
  by_cases hg : Nat.gcd n.natAbs d = 1
  · rw [hg, decDigits_one]
    have E1' := E1.out
    have E2' := E2.out
    rw [hg] at E1' E2'
    rw [Nat.div_one] at E2'
    have E1'' : q.num = n := by rw [E1']; simp
    clear E1 E2 E1' HNN HDD
    rw [itoa_ofNat, ← E2', ← E1''] at *
    clear E1'' E2'
    go_wp2_with fail
    refine (join_rt q w1 HQN.out HQD.out).mono ?_
    rintro e w2 ⟨rfl, rfl⟩
    go_wp2
    go_ret
    exact ⟨rfl, hb1⟩
  · have hne : (Lib.decDigits (Nat.gcd n.natAbs d) == [49]) = false := beq_false_of_ne (fun e => hg (decDigits_inj (e.trans decDigits_one.symm)))
    rw [← itoa_ofNat (Nat.gcd n.natAbs d)] at hne ⊢
    clear hg
    generalize hgg : Nat.gcd n.natAbs d = g at *
    clear hgg
    go_wp2_with fail
    refine (DivMod_itoa n g w1 (HE.out.below hb1) HN.out (by simpa using HGD.out) (by have := HG0.out; omega)).mono ?_
    rintro e w2 ⟨rfl, hb2⟩
    rw [← E1.out]
    go_wp2_with fail
    refine (DivMod_itoa d g w2 ((HE.out.below hb1).below hb2) (by simpa using HD.out) (by simpa using HGD.out) (by have := HG0.out; omega)).mono ?_
    rintro e w3 ⟨rfl, hb3⟩
    rw [show ((d : Nat) : Int) / ((g : Nat) : Int) = ((q.den : Nat) : Int) by rw [E2.out]; simp, itoa_ofNat q.den]
    go_wp2_with fail
    refine (join_rt q w3 HQN.out HQD.out).mono ?_
    rintro e w4 ⟨rfl, rfl⟩
    go_wp2
    go_ret
    exact ⟨rfl, below_trans (below_trans hb1 hb2) hb3⟩

set_option maxRecDepth 100000 in
/-- rational.New. -/
theorem New_any (n d : Int) (w : World) (hE : Env w) (hd : d ≠ 0) (h1 : Lib.nDigits n.natAbs ≤ 400000000) (h2 : Lib.nDigits d.natAbs ≤ 400000000) :
    Calls Tryz.prog 88 #[.string (tx (Lib.itoa n)), .string (tx (Lib.itoa d))] w (Ret (.tuple #[.string (tx (rt (Rat.divInt n d))), .int .i64 0]) w) := by
  have hs : ¬ sgn d = 0 := by unfold sgn; split <;> (try split) <;> omega
  go_enter Tryz.func88, Tryz.ntmps88
  go_wp2_with fail
  refine (Sign_itoa _ _).mono ?_
  rintro e w' ⟨rfl, rfl⟩
  go_wp2_with fail
  refine (lowest_any n d w' hE hd h1 h2).mono ?_
  rintro e w1 ⟨rfl, hb1⟩
  go_wp2
  go_ret2
  exact ⟨rfl, hb1⟩

/-! a text taken apart at its slash -/
theorem index_no : ∀ {l : List UInt8}, (47 : UInt8) ∉ l → Lib.index l [47] = -1
  | [], _ => rfl
  | b :: l, h => by
    have hb : b ≠ 47 := fun e => h (by rw [e]; exact List.mem_cons_self ..)
    have := index_no (l := l) (fun h' => h (List.mem_cons_of_mem _ h'))
    rw [Lib.index, this]
    simp [List.isPrefixOf, Ne.symm hb]
theorem index_at : ∀ {l m : List UInt8}, (47 : UInt8) ∉ l → Lib.index (l ++ 47 :: m) [47] = l.length
  | [], m, _ => by rw [List.nil_append, Lib.index]; simp [List.isPrefixOf]
  | b :: l, m, h => by
    have hb : b ≠ 47 := fun e => h (by rw [e]; exact List.mem_cons_self ..)
    have := index_at (l := l) (m := m) (fun h' => h (List.mem_cons_of_mem _ h'))
    rw [List.cons_append, Lib.index, this]
    have h1 : (((l.length : Nat) : Int) == -1) = false := by rw [beq_eq_false_iff_ne]; omega
    simp [List.isPrefixOf, Ne.symm hb, h1]
theorem cut_no {l : List UInt8} (h : (47 : UInt8) ∉ l) : Lib.cut l [47] = (l, [], false) := by
  unfold Lib.cut; rw [index_no h]; rfl
theorem cut_at {l m : List UInt8} (h : (47 : UInt8) ∉ l) : Lib.cut (l ++ 47 :: m) [47] = (l, m, true) := by
  unfold Lib.cut; rw [index_at h, if_pos (by omega)]; simp
theorem cut_rt (q : Rat) : Lib.cut (rt q) [47] = if q.den = 1 then (Lib.itoa q.num, [], false) else (Lib.itoa q.num, Lib.decDigits q.den, true) := by
  by_cases h : q.den = 1
  · rw [rt_whole h, cut_no (itoa_no_slash _), if_pos h]
  · rw [rt_part h, cut_at (itoa_no_slash _), if_neg h]
theorem rt_len (q : Rat) : (rt q).length ≤ Lib.nDigits q.num.natAbs + Lib.nDigits q.den + 2 := by
  have := itoa_len q.num
  unfold rt; split
  · omega
  · simp [Lib.decDigits_length]; omega
set_option maxRecDepth 100000 in
/-- rational.Parts. -/
theorem Parts_rt (q : Rat) (w : World) (hE : Env w) (h : Rg 400000000 q) :
    Calls Tryz.prog 83 #[.string (tx (rt q))] w (Ret (.tuple #[.string (tx (Lib.itoa q.num)), .string (tx (Lib.decDigits q.den))]) w) := by
  obtain ⟨m, hm⟩ := hE.max
  have hc := cut_rt q
  have hl := rt_len q
  have h1 := h.num
  have h2 := h.den
  have hs : (tx (rt q)).size < 4294967281 := by show (rt q).length < 4294967281; omega
  clear hl h1 h2
  by_cases hd : q.den = 1
  · rw [if_pos hd] at hc
    rw [hd, decDigits_one]
    have HC := Lib.hid hc
    clear hc
    go_enter Tryz.func83, Tryz.ntmps83
    go_wp2_with fail
    refine (Tryz.strings_Cut _ _ m w hs hm).mono ?_
    simp only
    rw [HC.out]
    rintro e w1 ⟨rfl, k, rfl⟩
    go_wp2
    go_ret2
    exact ⟨rfl, below_drewN (Below.refl _ _) _⟩
  · rw [if_neg hd] at hc
    have HC := Lib.hid hc
    clear hc
    go_enter Tryz.func83, Tryz.ntmps83
    go_wp2_with fail
    refine (Tryz.strings_Cut _ _ m w hs hm).mono ?_
    simp only
    rw [HC.out]
    rintro e w1 ⟨rfl, k, rfl⟩
    go_wp2
    go_ret2
    exact ⟨rfl, below_drewN (Below.refl _ _) _⟩
end Go.Proofs.Kl
/- rational.quick. -/
namespace Go.Proofs.Kl
open Go.RowKit Go.Shelf

/-- a text is a sign, digits and a rest. -/
structure Qt (S : List UInt8) (neg : Bool) (p : Nat) (D R : List UInt8) : Prop where
  len : S.length = p + D.length + R.length
  pre : p = if neg then 1 else 0
  head : (S.getD 0 0).toNat = 45 ↔ neg = true
  dig : ∀ k, k < D.length → S.getD (p + k) 0 = D.getD k 0
  rest : ∀ k, k < R.length → S.getD (p + D.length + k) 0 = R.getD k 0
  isd : ∀ k, k < D.length → isD (D.getD k 0) = true
theorem dv_take_succ (D : List UInt8) (k : Nat) (h : k < D.length) : dv (D.take (k + 1)) = 10 * dv (D.take k) + ((D.getD k 0).toNat - 48) := by
  rw [List.take_succ_eq_append_getElem h, dv_snoc]
  simp [List.getD, h]
theorem dv_take_lt {D : List UInt8} {k : Nat} (h : ∀ c ∈ D, isD c = true) (hk : k ≤ 9) : dv (D.take k) < 1000000000 := by
  refine Nat.lt_of_lt_of_le (dv_lt _ (fun c hc => h c (List.mem_of_mem_take hc))) ?_
  have h2 : (D.take k).length ≤ 9 := by rw [List.length_take]; omega
  exact Nat.pow_le_pow_right (n := 10) (by decide) h2
theorem qt_rt (q : Rat) : Qt (rt q) (decide (q.num < 0)) (if q.num < 0 then 1 else 0) (Lib.decDigits q.num.natAbs) (if q.den = 1 then [] else 47 :: Lib.decDigits q.den) := by
  obtain ⟨R, hR⟩ : ∃ R, R = (if q.den = 1 then [] else 47 :: Lib.decDigits q.den) := ⟨_, rfl⟩
  have e : rt q = Lib.itoa q.num ++ R := by rw [hR]; unfold rt; split <;> simp
  rw [← hR, e]
  have hd := decDigits_isD q.num.natAbs
  have hne := decDigits_ne_nil q.num.natAbs
  by_cases h : q.num < 0
  · rw [itoa_neg h]
    generalize Lib.decDigits q.num.natAbs = D at *
    refine ⟨by simp [h]; omega, by simp [h], by simp [h], fun k hk => ?_, fun k hk => ?_, fun k hk => ?_⟩
    · rw [if_pos h, show 1 + k = k + 1 by omega]
      simp [List.getD, List.getElem?_append, hk]
    · rw [if_pos h, show 1 + D.length + k = (D.length + k) + 1 by omega]
      simp [List.getD, List.getElem?_append]
      rw [if_neg (by omega)]
    · simpa [List.getD, hk] using hd (D[k]) (List.getElem_mem ..)
  · rw [itoa_nonneg (by omega), show q.num.toNat = q.num.natAbs by omega]
    generalize Lib.decDigits q.num.natAbs = D at *
    refine ⟨by simp [h], by simp [h], ?_, fun k hk => ?_, fun k hk => ?_, fun k hk => ?_⟩
    · cases D with
      | nil => exact absurd rfl hne
      | cons c r =>
        have := hd c (List.mem_cons_self ..)
        simp [isD] at this
        simp [h]; omega
    · rw [if_neg h]
      simp [List.getD, List.getElem?_append, hk]
    · rw [if_neg h]
      simp [List.getD, List.getElem?_append]
      rw [if_neg (by omega)]
    · simpa [List.getD, hk] using hd (D[k]) (List.getElem_mem ..)
def qfail : Value := .tuple #[.int .i64 0, .int .i64 0, .bool false]
def qok (n : Int) (d : Nat) : Value := .tuple #[.int .i64 n, .int .i64 (d : Int), .bool true]
def QuickP (neg : Bool) (D R : List UInt8) (e : Ending) : Prop := (e = .returned qfail ∧ (9 < D.length ∨ 10 < R.length)) ∨ (e = .returned (qok (sgd neg (dv D)) (if R = [] then 1 else dv (R.drop 1))) ∧ D.length ≤ 9 ∧ R.length ≤ 10)
set_option maxHeartbeats 4000000 in
set_option maxRecDepth 100000 in
theorem quick_qt (S : List UInt8) (neg : Bool) (p : Nat) (D R : List UInt8) (w : World) (hq : Qt S neg p D R) (hS : S.length ≤ 1000000000) (hD : 0 < D.length) (hDd : ∀ c ∈ D, isD c = true) (hR : R = [] ∨ ∃ E, R = 47 :: E ∧ ∀ c ∈ E, isD c = true) :
    Calls Tryz.prog 108 #[.string (tx S)] w fun e w' => QuickP neg D R e ∧ w' = w := by
  have HQ := Lib.hid hq
  have HR := Lib.hid hR
  have HD := Lib.hid hDd
  have hlen := hq.len
  have hpre := hq.pre
  have hp1 : p ≤ 1 := by rw [hpre]; split <;> omega
  have hSl : 0 < S.length := by omega
  have h0 := tx_get S 0 (by show 0 < S.length; exact hSl)
  have hneg : ((((tx S)[0]'(by show 0 < S.length; exact hSl)).toNat : Int) = 45) ↔ neg = true := by
    rw [h0, ← hq.head]; omega
  clear hq hR hDd hpre h0
  have HP := Lib.hid (HQ.out.pre)
  go_enter Tryz.func108, Tryz.ntmps108
  go_upto_region 2 with fail
  go_cut [15] (fun s15 wi => s15 = .bool neg ∧ wi = w)
  case first =>
    cases neg with
    | true =>
      have h1 := hneg.2 rfl
      go_wp2_with fail
      go_meet
      exact ⟨rfl, rfl⟩
    | false =>
      have h1 : ¬ _ := fun h => absurd (hneg.1 h) (by simp)
      go_wp2_with fail
      go_meet
      exact ⟨by congr 1; exact beq_false_of_ne h1, rfl⟩
  case rest =>
  obtain ⟨rfl, rfl⟩ := hcut
  clear hneg
  go_upto_if 15 with fail
  go_cut [5, 6] (fun s5 s6 wi => s5 = .int .i64 (p : Int) ∧ s6 = .bool neg ∧ wi = wc)
  case first =>
    cases neg with
    | true =>
      have hp := HP.out
      go_wp2_with fail
      go_meet
      exact ⟨by rw [hp]; rfl, rfl, rfl⟩
    | false =>
      have hp := HP.out
      go_wp2_with fail
      go_meet
      exact ⟨by rw [hp]; rfl, rfl, rfl⟩
  case rest =>
  obtain ⟨rfl, rfl, rfl⟩ := hcut
  go_wp2_with fail
  go_loopw [2, 3, 5] (fun n s3 i wr => ∃ (k j v : Nat), j = p + k ∧ v = dv (D.take k) ∧ k ≤ D.length ∧ k ≤ 9 ∧ n = .int .i64 (v : Int) ∧ i = .int .i64 (j : Int) ∧ s3 = .int .i64 0 ∧ wr = wc) (fun _ _ i _ => ((p : Int) + D.length + R.length + 1 - intOf i).toNat)
  case atStart => exact ⟨0, p, 0, rfl, by simp [dv], by omega, by omega, rfl, rfl, rfl, rfl⟩
  case round =>
    obtain ⟨k, j, v, hj, hv, hk, hk9, rfl, rfl, rfl, rfl⟩ := hrel
    have hvb : v < 1000000000 := by rw [hv]; exact dv_take_lt HD.out hk9
    have HV := Lib.hid hv
    have HJ := Lib.hid hj
    have hjp : (p : Int) ≤ (j : Int) := by omega
    clear hv
    by_cases hlt : k < D.length
    · have hi : (j : Int) < (p : Int) + (D.length : Int) + (R.length : Int) := by omega
      have hjS : j < (tx S).size := by show j < S.length; omega
      have hg2 : S.getD j 0 = D.getD k 0 := by rw [hj]; exact HQ.out.dig k hlt
      have h9j : k = 9 ↔ (j : Int) - (p : Int) = 9 := by omega
      clear hj
      have hget := tx_get S j hjS
      rw [hg2] at hget
      have hdig := (isD_iff _).1 (HQ.out.isd k hlt)
      rw [← hget] at hdig
      have hts := dv_take_succ D k hlt
      rw [← HV.out, ← hget] at hts
      have HTS := Lib.hid hts
      clear hget hg2 hts
      have hn47 : ¬ ((((tx S)[j]'hjS).toNat : Int) = 47) := by omega
      by_cases h9 : k = 9
      · have h9' := h9j.1 h9
        have hbig : 9 < D.length := by omega
        have HBIG := Lib.hid hbig
        clear hbig hlt h9j h9
        go_wp2_with fail
        go_ret3
        exact ⟨.inl ⟨rfl, .inl HBIG.out⟩, rfl⟩
      · have h9' : ¬ (j : Int) - (p : Int) = 9 := fun h => h9 (h9j.2 h)
        clear h9j
        go_wp2_with fail
        refine ⟨⟨k + 1, j + 1, 10 * v + (((tx S)[j]'hjS).toNat - 48), by have := HJ.out; omega, HTS.out.symm, by omega, by omega, by congr 1; omega, by congr 1, rfl, trivial⟩, ?_⟩
        simp only [intOf]; omega
    · obtain rfl : k = D.length := by omega
      have hv2 : v = dv D := by rw [HV.out, List.take_length]
      have HV2 := Lib.hid hv2
      clear hv2
      rcases HR.out with hR | ⟨E, hR, hE⟩
      · have hi : ¬ (j : Int) < (p : Int) + (D.length : Int) + (R.length : Int) := by rw [hR]; simp; omega
        have hie : (j : Int) = (p : Int) + (D.length : Int) + (R.length : Int) := by rw [hR]; simp; omega
        have HRR := Lib.hid hR
        clear hj hR
        cases neg with
        | true =>
          go_wp2_with fail
          go_ret3
          exact ⟨.inr ⟨by rw [if_pos HRR.out, ← HV2.out]; rfl, hk9, by rw [HRR.out]; simp⟩, rfl⟩
        | false =>
          go_wp2_with fail
          go_ret3
          exact ⟨.inr ⟨by rw [if_pos HRR.out, ← HV2.out]; rfl, hk9, by rw [HRR.out]; simp⟩, rfl⟩
      · have hRl : R.length = E.length + 1 := by rw [hR]; rfl
        have hi : (j : Int) < (p : Int) + (D.length : Int) + (R.length : Int) := by omega
        have hie : ¬ (j : Int) = (p : Int) + (D.length : Int) + (R.length : Int) := by omega
        have hjS : j < (tx S).size := by show j < S.length; omega
        have h47 : (((tx S)[j]'hjS).toNat : Int) = 47 := by
          rw [tx_get]
          have := HQ.out.rest 0 (by omega)
          rw [Nat.add_zero] at this
          rw [hj, this, hR]; rfl
        obtain ⟨n0, hn0⟩ : ∃ n0 : Int, n0 = sgd neg v := ⟨_, rfl⟩
        have HN0 := Lib.hid hn0
        have HRR := Lib.hid hR
        have HEE := Lib.hid hE
        clear hj hR hn0 hE
        go_upto_if 41 with fail
        go_cut [2] (fun s2 wi => s2 = .int .i64 n0 ∧ wi = wr)
        case first =>
          cases neg with
          | true =>
            go_wp2_with fail
            go_meet
            exact ⟨by rw [HN0.out]; rfl, rfl⟩
          | false =>
            go_wp2_with fail
            go_meet
            exact ⟨by rw [HN0.out]; rfl, rfl⟩
        case rest =>
        obtain ⟨rfl, rfl⟩ := hcut
        go_wp2_with fail
        have HK9 := Lib.hid hk9
        clear h47 hjS hi hie
        go_loopw [2, 3, 5] (fun s2 n i wr => ∃ (k i0 x : Nat), i0 = j + 1 + k ∧ x = dv (E.take k) ∧ k ≤ E.length ∧ k ≤ 9 ∧ n = .int .i64 (x : Int) ∧ i = .int .i64 (i0 : Int) ∧ s2 = .int .i64 n0 ∧ wr = wc) (fun _ _ i _ => ((p : Int) + D.length + R.length + 1 - intOf i).toNat)
        case atStart => exact ⟨0, j + 1, 0, by omega, by simp [dv], by omega, by omega, rfl, rfl, rfl, rfl⟩
        case round =>
          obtain ⟨k, i0, x, hj, hv, hk, hk9, rfl, rfl, rfl, rfl⟩ := hrel
          have hvb : x < 1000000000 := by rw [hv]; exact dv_take_lt HEE.out hk9
          have HVE := Lib.hid hv
          have HJE := Lib.hid hj
          have hJJ := HJ.out
          have hjp : (j : Int) + 1 ≤ (i0 : Int) := by omega
          clear hv
          by_cases hlt : k < E.length
          · have hi : (i0 : Int) < (p : Int) + (D.length : Int) + ((E.length : Int) + 1) := by omega
            have hjS : i0 < (tx S).size := by show i0 < S.length; omega
            have hg2 : S.getD i0 0 = E.getD k 0 := by
              have := HQ.out.rest (k + 1) (by omega)
              rw [show p + D.length + (k + 1) = i0 by omega, HRR.out, List.getD_cons_succ] at this
              exact this
            have h9j : k = 9 ↔ (i0 : Int) - ((j : Int) + 1) = 9 := by omega
            clear hj hJJ
            have hget := tx_get S i0 hjS
            rw [hg2] at hget
            have hEk : isD (E.getD k 0) = true := by
              have := HEE.out (E[k]) (List.getElem_mem ..)
              simpa [List.getD, hlt] using this
            have hdig := (isD_iff _).1 hEk
            rw [← hget] at hdig
            have hts := dv_take_succ E k hlt
            rw [← HVE.out, ← hget] at hts
            have HTS := Lib.hid hts
            clear hget hg2 hts hEk
            by_cases h9 : k = 9
            · have h9' := h9j.1 h9
              have hbig : 10 < R.length := by omega
              have HBIG := Lib.hid hbig
              clear hbig hlt h9j h9
              go_wp2_with fail
              go_ret3
              exact ⟨.inl ⟨rfl, .inr HBIG.out⟩, rfl⟩
            · have h9' : ¬ (i0 : Int) - ((j : Int) + 1) = 9 := fun h => h9 (h9j.2 h)
              clear h9j
              go_wp2_with fail
              refine ⟨⟨k + 1, i0 + 1, 10 * x + (((tx S)[i0]'hjS).toNat - 48), by have := HJE.out; omega, HTS.out.symm, by omega, by omega, by congr 1; omega, by congr 1, rfl, trivial⟩, ?_⟩
              simp only [intOf]; omega
          · obtain rfl : k = E.length := by omega
            have hi : ¬ (i0 : Int) < (p : Int) + (D.length : Int) + ((E.length : Int) + 1) := by omega
            have hv2 : x = dv E := by rw [HVE.out, List.take_length]
            have HXE := Lib.hid hv2
            clear hv2 hj hJJ
            go_wp2_with fail
            go_ret3
            exact ⟨.inr ⟨by rw [if_neg (by rw [HRR.out]; simp), HRR.out, List.drop_one, List.tail_cons, ← HXE.out, ← HV2.out, ← HN0.out]; rfl, HK9.out, by rw [HRR.out]; simp; omega⟩, rfl⟩

/-- rational.quick: numerator and denominator, if both are short. -/
theorem quick_rt (q : Rat) (w : World) (h : Rg 400000000 q) :
    Calls Tryz.prog 108 #[.string (tx (rt q))] w fun e w' => ((e = .returned qfail ∧ ¬ Rg 9 q) ∨ (e = .returned (qok q.num q.den) ∧ Rg 9 q)) ∧ w' = w := by
  have hl := rt_len q
  have h1 := h.num
  have h2 := h.den
  have h3 := decDigits_ne_nil q.num.natAbs
  have h4 := Lib.decDigits_length q.num.natAbs
  have h5 := Lib.decDigits_length q.den
  refine (quick_qt _ _ _ _ _ w (qt_rt q) (by omega) (List.length_pos_iff.2 h3) (decDigits_isD _) ?_).mono ?_
  · split
    · exact .inl rfl
    · exact .inr ⟨_, rfl, decDigits_isD _⟩
  · rintro e w' ⟨h, rfl⟩
    refine ⟨?_, rfl⟩
    have hone : Lib.nDigits 1 = 1 := Lib.nDigits_small (by decide)
    rcases h with ⟨rfl, h⟩ | ⟨rfl, h, h'⟩
    · left
      refine ⟨rfl, fun hr => ?_⟩
      have := hr.num
      have := hr.den
      rcases h with h | h
      · omega
      · split at h
        · simp at h
        · simp at h; omega
    · right
      have hs : sgd (decide (q.num < 0)) (dv (Lib.decDigits q.num.natAbs)) = q.num := by
        rw [dv_decDigits]; by_cases hh : q.num < 0 <;> simp [sgd, hh] <;> omega
      rw [hs]
      by_cases hd : q.den = 1
      · rw [if_pos hd] at *
        rw [if_pos rfl, hd]
        exact ⟨rfl, ⟨by omega, by rw [hd, hone]; omega⟩⟩
      · simp only [hd, if_false] at h' ⊢
        rw [if_neg (by simp), List.drop_one, List.tail_cons, dv_decDigits]
        simp at h'
        exact ⟨rfl, ⟨by omega, by omega⟩⟩
end Go.Proofs.Kl
/- rational.small. -/
namespace Go.Proofs.Kl
open Go.RowKit Go.Shelf
set_option maxHeartbeats 2000000 in
set_option maxRecDepth 100000 in
theorem small_q (n : Int) (d : Nat) (w : World) (hE : Env w) (hd : 0 < d) (h1 : n.natAbs ≤ 4000000000000000000) (h2 : d ≤ 4000000000000000000) :
    Calls Tryz.prog 109 #[.int .i64 n, .int .i64 (d : Int)] w (Ret (.string (tx (rt (mkRat n d)))) w) := by
  obtain ⟨e1, e2⟩ := divInt_num_den_pos (n := n) hd
  obtain ⟨q, hq⟩ : ∃ q, q = mkRat n d := ⟨_, rfl⟩
  rw [← hq] at e1 e2 ⊢
  obtain ⟨g, hg⟩ : ∃ g, g = Nat.gcd n.natAbs d := ⟨_, rfl⟩
  rw [← hg] at e1 e2
  have hg0 : 0 < g := by rw [hg]; exact Nat.gcd_pos_of_pos_right _ hd
  have hgd : g ≤ d := by rw [hg]; exact Nat.gcd_le_right _ hd
  have hdv1 : (g : Int) ∣ n := by rw [hg, ← Int.dvd_natAbs]; exact Int.natCast_dvd_natCast.2 (Nat.gcd_dvd_left _ _)
  have hdv2 : (g : Int) ∣ (d : Int) := by rw [hg]; exact Int.natCast_dvd_natCast.2 (Nat.gcd_dvd_right _ _)
  have t1 : n.tdiv (g : Int) = q.num := by rw [e1, Int.tdiv_eq_ediv_of_dvd hdv1]
  have t2 : (d : Int).tdiv (g : Int) = (q.den : Int) := by rw [e2, Int.tdiv_eq_ediv_of_dvd hdv2]; simp
  have b1 : q.num.natAbs ≤ n.natAbs := by rw [e1]; exact Int.natAbs_ediv_le_natAbs _ _
  have b2 : q.den ≤ d := by rw [e2]; exact Nat.div_le_self _ _
  have T1 := Lib.hid t1
  have T2 := Lib.hid t2
  have HG := Lib.hid hg
  have HE := Lib.hid hE
  have HQ := Lib.hid hq
  clear e1 e2 hdv1 hdv2 t1 t2 hg hE hq
  go_enter Tryz.func109, Tryz.ntmps109
  go_wp2_with fail
  go_loopw [5, 6] (fun x y wr => ∃ (wq : World) (u v : Int), wq = wr ∧ x = .int .i64 u ∧ y = .int .i64 v ∧ u.natAbs ≤ 4000000000000000000 ∧ v.natAbs ≤ 4000000000000000000 ∧ Nat.gcd u.natAbs v.natAbs = g ∧ Below w.heap.size w wr)
    (fun _ y _ => (intOf y).natAbs)
  case atStart => exact ⟨_, n, (d : Int), rfl, rfl, rfl, h1, by simpa using h2, by rw [Int.natAbs_natCast]; exact HG.out.symm, Below.refl _ _⟩
  case round =>
    obtain ⟨wr, u, v, rfl, rfl, rfl, hu, hv, hgg, hbr⟩ := hrel
    have HGG := Lib.hid hgg
    have HU := Lib.hid hu
    have HV := Lib.hid hv
    clear hgg hu hv
    by_cases hv0 : v = 0
    · subst hv0
      have hug : u.natAbs = g := by rw [← HGG.out]; simp
      have hb1 : -4000000000000000000 ≤ u := by have := HU.out; omega
      have hb2 : u ≤ 4000000000000000000 := by have := HU.out; omega
      have HUG := Lib.hid hug
      clear hug
      go_upto_if 16 with fail
      go_cut [5] (fun s5 wi => s5 = .int .i64 (g : Int) ∧ wi = wr)
      case first =>
        by_cases hneg : u < 0
        · go_wp2_with fail
          go_meet
          exact ⟨by congr 1; have := HUG.out; omega, rfl⟩
        · go_wp2_with fail
          go_meet
          exact ⟨by congr 1; have := HUG.out; omega, rfl⟩
      case rest =>
      obtain ⟨rfl, rfl⟩ := hcut
      have hgz : ¬ (g : Int) = 0 := by omega
      have t1 := T1.out
      have t3 : (d : Int) / (g : Int) = (q.den : Int) := by rw [← T2.out]; exact (Int.tdiv_eq_ediv_of_nonneg (by omega)).symm
      have b3 : -4000000000000000000 ≤ q.num := by omega
      have b4 : q.num ≤ 4000000000000000000 := by omega
      have b5 : q.den ≤ 4000000000000000000 := by omega
      go_wp2_with fail
      go_quiet (fail)
      have hbw := below_drewN hbr nq
      generalize wc.drewN nq = w1 at *
      clear t1 t3
      have HEW := Lib.hid (HE.out.below hbw)
      have l1 : (Lib.itoa q.num).length ≤ 20 := by
        have h := (nDigits_le (u := q.num.natAbs) (k := 19) (by decide)).2 (by omega)
        have := itoa_len q.num; omega
      have l2 : (Lib.itoa (q.den : Int)).length ≤ 20 := by
        have h := (nDigits_le (u := q.den) (k := 19) (by decide)).2 (by omega)
        have := itoa_len (q.den : Int); rw [Int.natAbs_natCast] at this; omega
      by_cases hd1 : q.den = 1
      · have hd2 : (q.den : Int) = 1 := by omega
        have hrt := rt_whole hd1
        have HRT := Lib.hid hrt
        clear hrt hd1
        go_wp2_with fail
        refine (Itoa_any q.num (by omega) (by omega) w1 HEW.out).mono ?_
        rintro e w2 ⟨rfl, hb2⟩
        rw [← HRT.out]
        go_wp2
        go_ret
        exact ⟨rfl, below_trans hbw hb2⟩
      · have hd2 : ¬ (q.den : Int) = 1 := by omega
        have hrt := rt_part hd1
        have HRT := Lib.hid hrt
        clear hrt hd1
        go_wp2_with fail
        refine (Itoa_any q.num (by omega) (by omega) w1 HEW.out).mono ?_
        rintro e w2 ⟨rfl, hb2⟩
        go_wp2_with fail
        refine (Itoa_any (q.den : Int) (by omega) (by omega) w2 (HEW.out.below hb2)).mono ?_
        rintro e w3 ⟨rfl, hb3⟩
        go_wp2_with fail
        go_ret
        exact ⟨by rw [HRT.out, ← tx_slash, itoa_ofNat]; rfl, below_trans (below_trans hbw hb2) hb3⟩
    · have hm := tmod_lt (u := u) hv0
      have HM := Lib.hid hm
      have HM2 := Lib.hid (gcd_tmod (u := u) (v := v))
      clear hm
      go_wp2_with fail
      go_quiet (fail)
      go_wp2
      go_roundw
      case rel => exact ⟨_, v, u.tmod v, rfl, rfl, rfl, HV.out, Nat.le_trans (Nat.le_of_lt HM.out) HV.out, HM2.out.trans HGG.out, below_drewN hbr _⟩
      case measure => exact HM.out
end Go.Proofs.Kl
/- rational: Sign, Neg, Add, Sub, Mul. -/
namespace Go.Proofs.Kl
open Go.RowKit Go.Shelf

theorem rt_beq0 {q : Rat} (h : q ≠ 0) : (rt q == [48]) = false := beq_false_of_ne (fun e => h (rt_eq_zero.1 e))
theorem rt_beq1 {q : Rat} (h : q ≠ 1) : (rt q == [49]) = false := beq_false_of_ne (fun e => h (rt_eq_one.1 e))
theorem rt_pos_len (q : Rat) : 0 < (rt q).length := List.length_pos_iff.2 (rt_ne_nil q)
/-- the sign of a rational number. -/
def sgq (q : Rat) : Int := if q = 0 then 0 else if q < 0 then -1 else 1
theorem rt_first {q : Rat} (h : 0 < (tx (rt q)).size) : ((((tx (rt q))[0]'h).toNat : Int) = 45) ↔ q < 0 := by
  rw [tx_get, ← rt_head_minus]
  cases hl : rt q with
  | nil => exact absurd hl (rt_ne_nil q)
  | cons c r =>
    simp only [List.getD_cons_zero, List.head?_cons, Option.some.injEq]
    constructor
    · intro e; exact UInt8.toNat_inj.1 (by rw [show c.toNat = 45 by omega]; rfl)
    · intro e; subst e; rfl
theorem Rg.len {k : Nat} {q : Rat} (h : Rg k q) : (rt q).length ≤ 2 * k + 2 := by
  have := rt_len q; have := h.num; have := h.den; omega

set_option maxRecDepth 100000 in
theorem RSign_rt (q : Rat) (w : World) (hr : Rg 400000000 q) : Calls Tryz.prog 147 #[.string (tx (rt q))] w fun e w' => e = .returned (.int .i64 (sgq q)) ∧ w' = w := by
  by_cases h0 : q = 0
  · subst h0
    rw [rt_zero]
    go_enter Tryz.func147, Tryz.ntmps147
    go_wp2
    go_ret
    exact ⟨rfl, rfl⟩
  · have h1 := rt_beq0 h0
    have h2 := rt_pos_len q
    have h3 := hr.len
    have h2' : 0 < (tx (rt q)).size := h2
    have h4 := rt_first h2'
    by_cases hn : q < 0
    · rw [show sgq q = -1 by simp [sgq, h0, hn]]
      have h5 := h4.2 hn
      clear h4 hn h0
      go_enter Tryz.func147, Tryz.ntmps147
      go_wp2
      go_ret
      exact ⟨rfl, rfl⟩
    · rw [show sgq q = 1 by simp [sgq, h0, hn]]
      have h5 : ¬ _ := fun h => hn (h4.1 h)
      clear h4 hn h0
      go_enter Tryz.func147, Tryz.ntmps147
      go_wp2
      go_ret
      exact ⟨rfl, rfl⟩

theorem rt_neg_pos {q : Rat} (h : 0 < q) : rt (-q) = 45 :: rt q := by
  have : -q < 0 := by rw [Rat.neg_lt_iff]; simpa using h
  rw [rt_neg this, Rat.neg_neg]
theorem pos_of {q : Rat} (h0 : q ≠ 0) (h : ¬ q < 0) : 0 < q := by
  rw [Rat.not_lt] at h
  exact Rat.lt_of_le_of_ne h (Ne.symm h0)
set_option maxRecDepth 100000 in
theorem RNeg_rt (q : Rat) (w : World) (hr : Rg 400000000 q) : Calls Tryz.prog 61 #[.string (tx (rt q))] w fun e w' => e = .returned (.string (tx (rt (-q)))) ∧ w' = w := by
  by_cases h0 : q = 0
  · subst h0
    rw [rt_zero, Rat.neg_zero, rt_zero]
    go_enter Tryz.func61, Tryz.ntmps61
    go_wp2
    go_ret
    exact ⟨rfl, rfl⟩
  · have h1 := rt_beq0 h0
    have h3 := hr.len
    by_cases hn : q < 0
    · have e := rt_neg hn
      have hcut : (tx (45 :: rt (-q))).extract 1 ((rt (-q)).length + 1) = tx (rt (-q)) := by
        rw [ByteArray.extract_mk]; simp
      have h4 : (rt (-q)).length ≤ 1000000000 := by rw [e] at h3; simp at h3; omega
      rw [e] at h1 ⊢
      clear h3 e hn h0 hr
      generalize rt (-q) = l at *
      go_enter Tryz.func61, Tryz.ntmps61
      go_wp2
      go_ret
      exact ⟨rfl, rfl⟩
    · have h2 := rt_pos_len q
      have h2' : 0 < (tx (rt q)).size := h2
      have h5 : ¬ _ := fun h => hn ((rt_first h2').1 h)
      have e := rt_neg_pos (pos_of h0 hn)
      rw [e]
      clear e hn h0 hr
      generalize rt q = l at *
      go_enter Tryz.func61, Tryz.ntmps61
      go_wp2
      go_ret
      exact ⟨rfl, rfl⟩

theorem rquick_some (q : Rat) (w : World) (h : Rg 400000000 q) :
    Calls Tryz.prog 108 #[.string (tx (rt q))] w fun e w' => ∃ (n d : Int) (ok : Bool), e = .returned (.tuple #[.int .i64 n, .int .i64 d, .bool ok]) ∧ (ok = true → n = q.num ∧ d = (q.den : Int) ∧ Rg 9 q) ∧ w' = w := by
  refine (quick_rt q w h).mono ?_
  rintro e w' ⟨⟨rfl, h⟩ | ⟨rfl, h⟩, rfl⟩
  · exact ⟨0, 0, false, rfl, by simp, rfl⟩
  · exact ⟨_, _, true, rfl, fun _ => ⟨rfl, rfl, h⟩, rfl⟩
theorem Parts_i (q : Rat) (w : World) (hE : Env w) (h : Rg 400000000 q) :
    Calls Tryz.prog 83 #[.string (tx (rt q))] w (Ret (.tuple #[.string (tx (Lib.itoa q.num)), .string (tx (Lib.itoa (q.den : Int)))]) w) := by
  rw [itoa_ofNat]; exact Parts_rt q w hE h
theorem rg9_num {q : Rat} (h : Rg 9 q) : q.num.natAbs < 1000000000 := (nDigits_le (k := 9) (by decide)).1 h.num
theorem rg9_den {q : Rat} (h : Rg 9 q) : q.den < 1000000000 := (nDigits_le (k := 9) (by decide)).1 h.den
theorem mul_abs_lt {a b : Int} (ha : a.natAbs < 1000000000) (hb : b.natAbs < 1000000000) : -1000000000000000000 ≤ a * b ∧ a * b ≤ 1000000000000000000 := by
  have h : (a * b).natAbs ≤ 1000000000 * 1000000000 := by rw [Int.natAbs_mul]; exact Nat.mul_le_mul (by omega) (by omega)
  omega
set_option maxHeartbeats 2000000 in
set_option maxRecDepth 100000 in
/-- rational.Add. -/
theorem RAdd_rt (a b : Rat) (w : World) (hE : Env w) (ha : Rg 100000000 a) (hb : Rg 100000000 b) :
    Calls Tryz.prog 59 #[.string (tx (rt a)), .string (tx (rt b))] w (Ret (.string (tx (rt (a + b)))) w) := by
  by_cases h0 : a = 0
  · subst h0
    rw [Rat.zero_add, rt_zero]
    go_enter Tryz.func59, Tryz.ntmps59
    go_wp2
    go_ret
    exact ⟨rfl, Below.refl _ _⟩
  have e0 := rt_beq0 h0
  by_cases h1 : b = 0
  · subst h1
    rw [Rat.add_zero, rt_zero]
    clear h0
    go_enter Tryz.func59, Tryz.ntmps59
    go_wp2
    go_ret
    exact ⟨rfl, Below.refl _ _⟩
  have e1 := rt_beq0 h1
  obtain ⟨q, hq⟩ : ∃ q, q = a + b := ⟨_, rfl⟩
  rw [← hq]
  have hadd := Rat.add_def' a b
  rw [← hq] at hadd
  have HADD := Lib.hid hadd
  have HA := Lib.hid ha
  have HB := Lib.hid hb
  have HE := Lib.hid hE
  clear h0 h1 hadd ha hb hE hq
  go_enter Tryz.func59, Tryz.ntmps59
  go_upto_if 27 with (go_at_call 108; refine (rquick_some a _ (HA.out.mono (by decide))).mono ?_; rintro e w' ⟨n, d, ok, rfl, hok, rfl⟩)
  go_cut [5, 6, 7, 8, 9, 10] (fun s5 s6 s7 s8 s9 s10 wi => wi = w')
  case first =>
    have HOK := Lib.hid hok
    clear hok
    cases ok with
    | false =>
      go_wp2_with fail
      go_meet
      rfl
    | true =>
      obtain ⟨rfl, rfl, hg⟩ := HOK.out rfl
      clear HOK
      have HG := Lib.hid hg
      clear hg
      go_wp2_with fail
      refine (rquick_some b _ (HB.out.mono (by decide))).mono ?_
      rintro e w ⟨m, d, ok, rfl, hok, rfl⟩
      have HOK := Lib.hid hok
      clear hok
      cases ok with
      | false =>
        go_wp2_with fail
        go_meet
        rfl
      | true =>
        obtain ⟨rfl, rfl, hg⟩ := HOK.out rfl
        have b1 := mul_abs_lt (rg9_num HG.out) (b := (b.den : Int)) (by rw [Int.natAbs_natCast]; exact rg9_den hg)
        have b2 := mul_abs_lt (rg9_num hg) (b := (a.den : Int)) (by rw [Int.natAbs_natCast]; exact rg9_den HG.out)
        have b3 := mul_abs_lt (a := (a.den : Int)) (b := (b.den : Int)) (by rw [Int.natAbs_natCast]; exact rg9_den HG.out) (by rw [Int.natAbs_natCast]; exact rg9_den hg)
        have hpos : 0 < a.den * b.den := Nat.mul_pos a.den_pos b.den_pos
        clear HOK hg
        go_wp2_with fail
        refine (small_q (a.num * b.den + b.num * a.den) (a.den * b.den) w HE.out hpos (by omega) (by have e : ((a.den * b.den : Nat) : Int) = (a.den : Int) * (b.den : Int) := Int.natCast_mul _ _; omega)).mono ?_
        rw [← HADD.out]
        rintro e w1 ⟨rfl, hb1⟩
        go_wp2
        go_ret
        exact ⟨rfl, hb1⟩
  case rest =>
  obtain rfl := hcut
  have hAn := HA.out.num
  have hAd := HA.out.den
  have hBn := HB.out.num
  have hBd := HB.out.den
  have m1 := nDigits_imul a.num (b.den : Int)
  have m2 := nDigits_imul b.num (a.den : Int)
  have m3 := nDigits_mul a.den b.den
  have m4 := nDigits_iadd (a.num * (b.den : Int)) (b.num * (a.den : Int))
  rw [Int.natAbs_natCast] at m1 m2
  have BND := Lib.hid (And.intro (And.intro hAn hAd) (And.intro (And.intro hBn hBd) (And.intro (And.intro m1 m2) (And.intro m3 m4))))
  clear hAn hAd hBn hBd m1 m2 m3 m4
  have hpos : a.den * b.den ≠ 0 := Nat.ne_of_gt (Nat.mul_pos a.den_pos b.den_pos)
  have HPOS := Lib.hid hpos
  clear hpos
  go_wp2_with fail
  refine (Parts_i a wc HE.out (HA.out.mono (by decide))).mono ?_
  rintro e w1 ⟨rfl, hb1⟩
  have HE1 := Lib.hid (HE.out.below hb1)
  go_wp2_with fail
  refine (Parts_i b w1 HE1.out (HB.out.mono (by decide))).mono ?_
  rintro e w2 ⟨rfl, hb2⟩
  have HE2 := Lib.hid (HE1.out.below hb2)
  go_wp2_with fail
  refine (Mul_itoa a.num (b.den : Int) w2 HE2.out (by have := BND.out; omega) (by rw [Int.natAbs_natCast]; have := BND.out; omega)).mono ?_
  rintro e w3 ⟨rfl, hb3⟩
  have HE3 := Lib.hid (HE2.out.below hb3)
  go_wp2_with fail
  refine (Mul_itoa b.num (a.den : Int) w3 HE3.out (by have := BND.out; omega) (by rw [Int.natAbs_natCast]; have := BND.out; omega)).mono ?_
  rintro e w4 ⟨rfl, hb4⟩
  have HE4 := Lib.hid (HE3.out.below hb4)
  go_wp2_with fail
  refine (Add_itoa (a.num * (b.den : Int)) (b.num * (a.den : Int)) w4 HE4.out (by have := BND.out; omega) (by have := BND.out; omega)).mono ?_
  rintro e w5 ⟨rfl, hb5⟩
  have HE5 := Lib.hid (HE4.out.below hb5)
  go_wp2_with fail
  refine (Mul_itoa (a.den : Int) (b.den : Int) w5 HE5.out (by rw [Int.natAbs_natCast]; have := BND.out; omega) (by rw [Int.natAbs_natCast]; have := BND.out; omega)).mono ?_
  rintro e w6 ⟨rfl, hb6⟩
  have HE6 := Lib.hid (HE5.out.below hb6)
  rw [← Int.natCast_mul]
  go_wp2_with fail
  refine (lowest_any (a.num * (b.den : Int) + b.num * (a.den : Int)) ((a.den * b.den : Nat) : Int) w6 HE6.out (by have := HPOS.out; omega) (by have := BND.out; omega) (by rw [Int.natAbs_natCast]; have := BND.out; omega)).mono ?_
  rw [Rat.divInt_ofNat, ← HADD.out]
  rintro e w7 ⟨rfl, hb7⟩
  go_wp2
  go_ret
  exact ⟨rfl, below_trans (below_trans (below_trans (below_trans (below_trans (below_trans hb1 hb2) hb3) hb4) hb5) hb6) hb7⟩

set_option maxRecDepth 100000 in
/-- rational.Sub. -/
theorem RSub_rt (a b : Rat) (w : World) (hE : Env w) (ha : Rg 100000000 a) (hb : Rg 100000000 b) :
    Calls Tryz.prog 47 #[.string (tx (rt a)), .string (tx (rt b))] w (Ret (.string (tx (rt (a - b)))) w) := by
  have h := RAdd_rt a (-b) w hE ha hb.neg
  rw [← Rat.sub_eq_add_neg] at h
  go_enter Tryz.func47, Tryz.ntmps47
  go_wp2_with fail
  refine (RNeg_rt b w (hb.mono (by decide))).mono ?_
  rintro e w' ⟨rfl, rfl⟩
  go_wp2_with fail
  refine h.mono ?_
  rintro e w1 ⟨rfl, hb1⟩
  go_wp2
  go_ret
  exact ⟨rfl, hb1⟩
end Go.Proofs.Kl
/- rational.Mul. -/
namespace Go.Proofs.Kl
open Go.RowKit Go.Shelf
set_option maxHeartbeats 2000000 in
set_option maxRecDepth 100000 in
/-- rational.Mul. -/
theorem RMul_rt (a b : Rat) (w : World) (hE : Env w) (ha : Rg 100000000 a) (hb : Rg 100000000 b) :
    Calls Tryz.prog 68 #[.string (tx (rt a)), .string (tx (rt b))] w (Ret (.string (tx (rt (a * b)))) w) := by
  by_cases h0 : a = 0
  · subst h0
    rw [Rat.zero_mul, rt_zero]
    go_enter Tryz.func68, Tryz.ntmps68
    go_wp2
    go_ret
    exact ⟨rfl, Below.refl _ _⟩
  have e0 := rt_beq0 h0
  by_cases h1 : b = 0
  · subst h1
    rw [Rat.mul_zero, rt_zero]
    clear h0
    go_enter Tryz.func68, Tryz.ntmps68
    go_wp2
    go_ret
    exact ⟨rfl, Below.refl _ _⟩
  have e1 := rt_beq0 h1
  by_cases h2 : a = 1
  · subst h2
    rw [Rat.one_mul, rt_one]
    clear h0 h1 e0
    go_enter Tryz.func68, Tryz.ntmps68
    go_wp2
    go_ret
    exact ⟨rfl, Below.refl _ _⟩
  have e2 := rt_beq1 h2
  by_cases h3 : b = 1
  · subst h3
    rw [Rat.mul_one, rt_one]
    clear h0 h1 h2 e1
    go_enter Tryz.func68, Tryz.ntmps68
    go_wp2
    go_ret
    exact ⟨rfl, Below.refl _ _⟩
  have e3 := rt_beq1 h3
  obtain ⟨q, hq⟩ : ∃ q, q = a * b := ⟨_, rfl⟩
  rw [← hq]
  have hadd := Rat.mul_def' a b
  rw [← hq] at hadd
  have HADD := Lib.hid hadd
  have HA := Lib.hid ha
  have HB := Lib.hid hb
  have HE := Lib.hid hE
  clear h0 h1 h2 h3 hadd ha hb hE hq
  go_enter Tryz.func68, Tryz.ntmps68
  go_upto_if 34 with (go_at_call 108; refine (rquick_some a _ (HA.out.mono (by decide))).mono ?_; rintro e w' ⟨n, d, ok, rfl, hok, rfl⟩)
  go_cut [5, 6, 7, 8, 9, 10] (fun s5 s6 s7 s8 s9 s10 wi => wi = w')
  case first =>
    have HOK := Lib.hid hok
    clear hok
    cases ok with
    | false =>
      go_wp2_with fail
      go_meet
      rfl
    | true =>
      obtain ⟨rfl, rfl, hg⟩ := HOK.out rfl
      clear HOK
      have HG := Lib.hid hg
      clear hg
      go_wp2_with fail
      refine (rquick_some b _ (HB.out.mono (by decide))).mono ?_
      rintro e w ⟨m, d, ok, rfl, hok, rfl⟩
      have HOK := Lib.hid hok
      clear hok
      cases ok with
      | false =>
        go_wp2_with fail
        go_meet
        rfl
      | true =>
        obtain ⟨rfl, rfl, hg⟩ := HOK.out rfl
        have b1 := mul_abs_lt (rg9_num HG.out) (rg9_num hg)
        have b3 := mul_abs_lt (a := (a.den : Int)) (b := (b.den : Int)) (by rw [Int.natAbs_natCast]; exact rg9_den HG.out) (by rw [Int.natAbs_natCast]; exact rg9_den hg)
        have hpos : 0 < a.den * b.den := Nat.mul_pos a.den_pos b.den_pos
        clear HOK hg
        go_wp2_with fail
        refine (small_q (a.num * b.num) (a.den * b.den) w HE.out hpos (by omega) (by have e : ((a.den * b.den : Nat) : Int) = (a.den : Int) * (b.den : Int) := Int.natCast_mul _ _; omega)).mono ?_
        rw [← HADD.out]
        rintro e w1 ⟨rfl, hb1⟩
        go_wp2
        go_ret
        exact ⟨rfl, hb1⟩
  case rest =>
  obtain rfl := hcut
  have hAn := HA.out.num
  have hAd := HA.out.den
  have hBn := HB.out.num
  have hBd := HB.out.den
  have m1 := nDigits_imul a.num b.num
  have m3 := nDigits_mul a.den b.den
  have BND := Lib.hid (And.intro (And.intro hAn hAd) (And.intro (And.intro hBn hBd) (And.intro m1 m3)))
  clear hAn hAd hBn hBd m1 m3
  have hpos : a.den * b.den ≠ 0 := Nat.ne_of_gt (Nat.mul_pos a.den_pos b.den_pos)
  have HPOS := Lib.hid hpos
  clear hpos
  go_wp2_with fail
  refine (Parts_i a wc HE.out (HA.out.mono (by decide))).mono ?_
  rintro e w1 ⟨rfl, hb1⟩
  have HE1 := Lib.hid (HE.out.below hb1)
  go_wp2_with fail
  refine (Parts_i b w1 HE1.out (HB.out.mono (by decide))).mono ?_
  rintro e w2 ⟨rfl, hb2⟩
  have HE2 := Lib.hid (HE1.out.below hb2)
  go_wp2_with fail
  refine (Mul_itoa a.num b.num w2 HE2.out (by have := BND.out; omega) (by have := BND.out; omega)).mono ?_
  rintro e w3 ⟨rfl, hb3⟩
  have HE3 := Lib.hid (HE2.out.below hb3)
  go_wp2_with fail
  refine (Mul_itoa (a.den : Int) (b.den : Int) w3 HE3.out (by rw [Int.natAbs_natCast]; have := BND.out; omega) (by rw [Int.natAbs_natCast]; have := BND.out; omega)).mono ?_
  rintro e w6 ⟨rfl, hb6⟩
  have HE6 := Lib.hid (HE3.out.below hb6)
  rw [← Int.natCast_mul]
  go_wp2_with fail
  refine (lowest_any (a.num * b.num) ((a.den * b.den : Nat) : Int) w6 HE6.out (by have := HPOS.out; omega) (by have := BND.out; omega) (by rw [Int.natAbs_natCast]; have := BND.out; omega)).mono ?_
  rw [Rat.divInt_ofNat, ← HADD.out]
  rintro e w7 ⟨rfl, hb7⟩
  go_wp2
  go_ret
  exact ⟨rfl, below_trans (below_trans (below_trans (below_trans hb1 hb2) hb3) hb6) hb7⟩

end Go.Proofs.Kl
/- rational.Check at any text; Min, Max. -/
namespace Go.Proofs.Kl
open Go.RowKit Go.Shelf

theorem first47 : ∀ {s : List UInt8}, (47 : UInt8) ∈ s → ∃ l m, (47 : UInt8) ∉ l ∧ s = l ++ 47 :: m
  | [], h => by simp at h
  | x :: s, h => by
    by_cases hx : x = 47
    · exact ⟨[], s, by simp, by rw [hx]; rfl⟩
    · have hs : (47 : UInt8) ∈ s := by
        rcases List.mem_cons.1 h with h | h
        · exact absurd h.symm hx
        · exact h
      obtain ⟨l, m, h1, h2⟩ := first47 hs
      exact ⟨x :: l, m, by intro h'; rcases List.mem_cons.1 h' with h' | h'; exact hx h'.symm; exact h1 h', by rw [h2]; rfl⟩
/-- a text is right: it is that of a number whose parts have at most 200 digits. -/
def Rok (s : List UInt8) : Prop := ∃ q, s = rt q ∧ Rg 200 q
open Classical in
/-- the error of a text. -/
noncomputable def rchkR (s : List UInt8) : Int := if Rok s then 0 else 2
theorem rchkR_ok {s : List UInt8} (h : Rok s) : rchkR s = 0 := if_pos h
theorem rchkR_no {s : List UInt8} (h : ¬ Rok s) : rchkR s = 2 := if_neg h
theorem Rok_no {s : List UInt8} (h : (47 : UInt8) ∉ s) : Rok s ↔ chk s = true := by
  rw [chk_iff]
  constructor
  · rintro ⟨q, rfl, hr⟩
    by_cases hd : q.den = 1
    · exact ⟨q.num, rt_whole hd, hr.num⟩
    · rw [rt_part hd] at h
      exact absurd (List.mem_append_right _ (List.mem_cons_self ..)) h
  · rintro ⟨n, rfl, hn⟩
    exact ⟨n, (rt_int n).symm, Rg_int hn⟩
theorem Rok_at {l m : List UInt8} (h : (47 : UInt8) ∉ l) : Rok (l ++ 47 :: m) ↔ ∃ (u : Int) (v : Nat), l = Lib.itoa u ∧ m = Lib.decDigits v ∧ Lib.nDigits u.natAbs ≤ 200 ∧ Lib.nDigits v ≤ 200 ∧ 1 < v ∧ Nat.gcd u.natAbs v = 1 := by
  constructor
  · rintro ⟨q, hq, hr⟩
    by_cases hd : q.den = 1
    · rw [rt_whole hd] at hq
      exact absurd (hq ▸ List.mem_append_right _ (List.mem_cons_self ..)) (itoa_no_slash q.num)
    · rw [rt_part hd] at hq
      obtain ⟨h1, h2⟩ := split47 h (itoa_no_slash _) hq
      exact ⟨q.num, q.den, h1, h2, hr.num, hr.den, by have := q.den_pos; omega, q.reduced⟩
  · rintro ⟨u, v, rfl, rfl, h1, h2, h3, h4⟩
    refine ⟨⟨u, v, by omega, h4⟩, ?_, ⟨h1, h2⟩⟩
    rw [rt_part (by show v ≠ 1; omega)]
theorem cmpI_one {v : Int} : cmpI v 1 ≤ 0 ↔ v ≤ 1 := by unfold cmpI; split <;> (try split) <;> omega
set_option maxHeartbeats 2000000 in
set_option maxRecDepth 100000 in
/-- rational.Check. -/
theorem RCheck_any (s : List UInt8) (w : World) (hE : Env w) (hs : s.length ≤ 4000000000) :
    Calls Tryz.prog 67 #[.string (tx s)] w (Ret (.int .i64 (rchkR s)) w) := by
  obtain ⟨mx, hm⟩ := hE.max
  have hsz : (tx s).size < 4294967281 := by show s.length < 4294967281; omega
  obtain ⟨R, hR⟩ : ∃ R, R = rchkR s := ⟨_, rfl⟩
  rw [← hR]
  have HR := Lib.hid hR
  have HE := Lib.hid hE
  clear hR hE
  by_cases h47 : (47 : UInt8) ∈ s
  · obtain ⟨l, m, hl, rfl⟩ := first47 h47
    have hc := cut_at (m := m) hl
    have HC := Lib.hid hc
    have HRA := Lib.hid (Rok_at (m := m) hl)
    clear hc h47 hl
    go_enter Tryz.func67, Tryz.ntmps67
    go_wp2_with fail
    refine (Tryz.strings_Cut _ _ mx w hsz hm).mono ?_
    simp only
    rw [HC.out]
    rintro e w1 ⟨rfl, k, rfl⟩
    have hb1 := below_drewN (Below.refl w.heap.size w) k
    have HE1 := Lib.hid (HE.out.below hb1)
    go_wp2_with fail
    refine (Check_any l _).mono ?_
    cases hcl : chk l with
    | false =>
      have hR2 : R = 2 := by
        rw [HR.out]
        refine rchkR_no (fun h => ?_)
        obtain ⟨u, v, e1, _, e3, _⟩ := HRA.out.1 h
        have := (chk_iff l).2 ⟨u, e1, e3⟩
        rw [hcl] at this; cases this
      have HR2 := Lib.hid hR2
      rw [show chkR l = 2 by unfold chkR; rw [hcl]; rfl]
      clear hR2
      rintro e w2 ⟨rfl, rfl⟩
      go_wp2_with fail
      go_ret
      exact ⟨by rw [HR2.out]; rfl, hb1⟩
    | true =>
      obtain ⟨u, rfl, hu⟩ := (chk_iff l).1 hcl
      rw [show chkR (Lib.itoa u) = 0 by unfold chkR; rw [hcl]; rfl]
      clear hcl
      rintro e w2 ⟨rfl, rfl⟩
      go_wp2_with fail
      refine (Check_any m _).mono ?_
      cases hcm : chk m with
      | false =>
        have hR2 : R = 2 := by
          rw [HR.out]
          refine rchkR_no (fun h => ?_)
          obtain ⟨u', v, _, e2, _, e4, _⟩ := HRA.out.1 h
          have := (chk_iff m).2 ⟨(v : Int), by rw [itoa_ofNat]; exact e2, by simpa using e4⟩
          rw [hcm] at this; cases this
        have HR2 := Lib.hid hR2
        rw [show chkR m = 2 by unfold chkR; rw [hcm]; rfl]
        clear hR2
        rintro e w3 ⟨rfl, rfl⟩
        go_wp2_with fail
        go_ret
        exact ⟨by rw [HR2.out]; rfl, hb1⟩
      | true =>
        obtain ⟨v, rfl, hv⟩ := (chk_iff m).1 hcm
        rw [show chkR (Lib.itoa v) = 0 by unfold chkR; rw [hcm]; rfl]
        clear hcm
        rintro e w3 ⟨rfl, rfl⟩
        have hone : Lib.nDigits (Int.natAbs 1) ≤ 900000000 := by rw [show Int.natAbs 1 = 1 from rfl, Lib.nDigits_small (by decide)]; decide
        have hcmp := Compare_itoa v 1 (w.drewN k) (by omega) hone
        rw [itoa_one] at hcmp
        have HU := Lib.hid hu
        have HV := Lib.hid hv
        obtain ⟨c, hc⟩ : ∃ c, c = cmpI v 1 := ⟨_, rfl⟩
        rw [← hc] at hcmp
        have HCC := Lib.hid hc
        have HCMP := Lib.hid hcmp
        clear hu hv hc hcmp hone
        by_cases hv1 : v ≤ 1
        · have hc0 : c ≤ 0 := by rw [HCC.out]; exact cmpI_one.2 hv1
          have hR2 : R = 2 := by
            rw [HR.out]
            refine rchkR_no (fun h => ?_)
            obtain ⟨u', v', _, e2, _, _, e5, _⟩ := HRA.out.1 h
            have := itoa_inj (e2.trans (itoa_ofNat v').symm)
            omega
          have HR2 := Lib.hid hR2
          clear hR2 hv1
          go_wp2_with fail
          refine HCMP.out.mono ?_
          rintro e w4 ⟨rfl, rfl⟩
          go_wp2_with fail
          go_ret
          exact ⟨by rw [HR2.out]; rfl, hb1⟩
        · have hc0 : ¬ c ≤ 0 := by rw [HCC.out]; intro h; exact hv1 (cmpI_one.1 h)
          have HV1 := Lib.hid hv1
          clear hv1
          by_cases hu0 : u = 0
          · subst hu0
            have hR2 : R = 2 := by
              rw [HR.out]
              refine rchkR_no (fun h => ?_)
              obtain ⟨u', v', e1, _, _, _, e5, e6⟩ := HRA.out.1 h
              have := itoa_inj e1
              subst this
              simp at e6; omega
            have HR2 := Lib.hid hR2
            have hz : (Lib.itoa 0 == [48]) = true := by rw [itoa_zero]; rfl
            clear hR2
            go_wp2_with fail
            refine HCMP.out.mono ?_
            rintro e w4 ⟨rfl, rfl⟩
            go_wp2_with fail
            go_ret
            exact ⟨by rw [HR2.out]; rfl, hb1⟩
          · have hz : (Lib.itoa u == [48]) = false := beq_false_of_ne (fun e => hu0 (itoa_inj (e.trans itoa_zero.symm)))
            clear hu0
            go_wp2_with fail
            refine HCMP.out.mono ?_
            rintro e w4 ⟨rfl, rfl⟩
            go_wp2_with fail
            refine (Gcd_itoa u v _ HE1.out (by have := HU.out; omega) (by have := HV.out; omega)).mono ?_
            rintro e w5 ⟨rfl, hb5⟩
            by_cases hg : Nat.gcd u.natAbs v.natAbs = 1
            · have hR0 : R = 0 := by
                rw [HR.out]
                refine rchkR_ok (HRA.out.2 ⟨u, v.natAbs, rfl, ?_, HU.out, HV.out, by have := HV1.out; omega, hg⟩)
                rw [itoa_nonneg (by have := HV1.out; omega)]; congr 1; have := HV1.out; omega
              have HR2 := Lib.hid hR0
              rw [hg, decDigits_one]
              clear hR0 hg
              go_wp2_with fail
              go_ret
              exact ⟨by rw [HR2.out]; rfl, below_trans hb1 hb5⟩
            · have hR2 : R = 2 := by
                rw [HR.out]
                refine rchkR_no (fun h => ?_)
                obtain ⟨u', v', e1, e2, _, _, _, e6⟩ := HRA.out.1 h
                have h1 := itoa_inj e1
                have h2 := itoa_inj (e2.trans (itoa_ofNat v').symm)
                subst h1
                rw [h2] at hg
                exact hg (by simpa using e6)
              have HR2 := Lib.hid hR2
              have hne : (Lib.decDigits (Nat.gcd u.natAbs v.natAbs) == [49]) = false := beq_false_of_ne (fun e => hg (decDigits_inj (e.trans decDigits_one.symm)))
              clear hR2 hg
              go_wp2_with fail
              go_ret
              exact ⟨by rw [HR2.out]; rfl, below_trans hb1 hb5⟩
  · have hc := cut_no h47
    have HC := Lib.hid hc
    have HRN := Lib.hid (Rok_no h47)
    clear hc h47
    go_enter Tryz.func67, Tryz.ntmps67
    go_wp2_with fail
    refine (Tryz.strings_Cut _ _ mx w hsz hm).mono ?_
    simp only
    rw [HC.out]
    rintro e w1 ⟨rfl, k, rfl⟩
    have hb1 := below_drewN (Below.refl w.heap.size w) k
    go_wp2_with fail
    refine (Check_any s _).mono ?_
    cases hcl : chk s with
    | false =>
      have hR2 : R = 2 := by
        rw [HR.out]
        exact rchkR_no (fun h => by have := HRN.out.1 h; rw [hcl] at this; cases this)
      have HR2 := Lib.hid hR2
      rw [show chkR s = 2 by unfold chkR; rw [hcl]; rfl]
      clear hR2
      rintro e w2 ⟨rfl, rfl⟩
      go_wp2_with fail
      go_ret
      exact ⟨by rw [HR2.out]; rfl, hb1⟩
    | true =>
      have hR0 : R = 0 := by rw [HR.out]; exact rchkR_ok (HRN.out.2 hcl)
      have HR2 := Lib.hid hR0
      rw [show chkR s = 0 by unfold chkR; rw [hcl]; rfl]
      clear hR0
      rintro e w2 ⟨rfl, rfl⟩
      go_wp2_with fail
      go_ret
      exact ⟨by rw [HR2.out]; rfl, hb1⟩
end Go.Proofs.Kl
/- Slices of texts: rational.Sum, vector.numbers, vector.Check. -/
namespace Go.Proofs.Kl
open Go.RowKit Go.Shelf

/-- a slice's value holds texts. -/
def Ts (w : World) (v : Value) (ts : List (List UInt8)) : Prop :=
  ∃ b off c, v = .slice (some ⟨b, off, none⟩) ts.length c ∧ ts.length ≤ c ∧ ∀ j, j < ts.length → w.cell? ⟨b, off + j, none⟩ = some (.string (tx (ts.getD j [])))
theorem Ts.below {w w1 : World} {v : Value} {ts : List (List UInt8)} (h : Ts w v ts) (hb : Below w.heap.size w w1) : Ts w1 v ts := by
  obtain ⟨b, off, c, e, hc, h1⟩ := h
  exact ⟨b, off, c, e, hc, fun j hj => cell_below hb (h1 j hj)⟩
theorem Ts_made (W : World) (e : TypeId) (ts : List (List UInt8)) : Ts (W.alloc (.cells (ts.map fun t => Value.string (tx t)).toArray e)) (.slice (some ⟨W.heap.size, 0, none⟩) ts.length ts.length) ts := by
  refine ⟨_, _, _, rfl, Nat.le_refl _, fun j hj => ?_⟩
  rw [Lib.cell_of_heap (World.alloc_heap_new W _), Nat.zero_add]
  simp [List.getD, hj]

/-- the sum of numbers. -/
def sumq (l : List Rat) : Rat := l.foldl (· + ·) 0
theorem sumq_succ (l : List Rat) (k : Nat) (h : k < l.length) : sumq (l.take (k + 1)) = sumq (l.take k) + l.getD k 0 := by
  rw [List.take_succ_eq_append_getElem h, sumq, List.foldl_append]
  simp [sumq, List.getD, h]
set_option maxHeartbeats 1000000 in
set_option maxRecDepth 100000 in
/-- rational.Sum. -/
theorem RSum_rt (qs : List Rat) (v : Value) (w : World) (hE : Env w) (hv : Ts w v (qs.map rt)) (hl : qs.length ≤ 1000000) (h1 : ∀ k, k < qs.length → Rg 100000000 (qs.getD k 0)) (h2 : ∀ k, k < qs.length → Rg 100000000 (sumq (qs.take k))) :
    Calls Tryz.prog 143 #[v] w (Ret (.string (tx (rt (sumq qs)))) w) := by
  obtain ⟨b, off, c, rfl, hc, hcell⟩ := hv
  rw [List.length_map] at *
  have hbw : ∀ k, k < qs.length → w.cell? ⟨b, off + k, none⟩ = some (.string (tx (rt (qs.getD k 0)))) := fun k hk => by
    rw [hcell k hk]; simp [List.getD, hk]
  have HC := Lib.hid hbw
  have HE := Lib.hid hE
  have H1 := Lib.hid h1
  have H2 := Lib.hid h2
  clear hcell hbw hE h1 h2
  go_enter Tryz.func143, Tryz.ntmps143
  go_wp2_with fail
  go_loopw [3, 5, 8] (fun s s5 i wr => ∃ (wq : World) (k : Nat), wq = wr ∧ k ≤ qs.length ∧ i = .int .i64 (k : Int) ∧ s = .string (tx (rt (sumq (qs.take k)))) ∧ Below w.heap.size w wq) (fun _ _ i _ => ((qs.length : Int) + 1 - intOf i).toNat)
  case atStart => exact ⟨_, 0, rfl, by omega, rfl, by rw [List.take_zero, show sumq [] = 0 from rfl, rt_zero], Below.refl _ _⟩
  case round =>
    obtain ⟨wr, k, rfl, hk, rfl, rfl, hbr⟩ := hrel
    by_cases hlt : k < qs.length
    · have hcx := cell_below hbr (HC.out k hlt)
      have hlt' : (k : Int) < (qs.length : Int) := by omega
      have hs := sumq_succ qs k hlt
      have HS := Lib.hid hs
      have HLT := Lib.hid hlt
      clear hs hlt
      go_wp2_with fail
      refine (RAdd_rt _ _ wr (HE.out.below hbr) (H2.out k HLT.out) (H1.out k HLT.out)).mono ?_
      rw [← HS.out]
      rintro e w1 ⟨rfl, hb1⟩
      have hbr1 := below_trans hbr hb1
      go_wp2
      go_roundw
      case rel => exact ⟨_, k + 1, rfl, by have := HLT.out; omega, by congr 1, rfl, hbr1⟩
      case measure => simp only [intOf]; omega
    · obtain rfl : k = qs.length := by omega
      rw [List.take_length]
      go_wp2_with fail
      go_ret
      exact ⟨rfl, hbr⟩

/-- all texts are right. -/
def NumsOk (ts : List (List UInt8)) : Prop := ∀ j, j < ts.length → Rok (ts.getD j [])
open Classical in
noncomputable def numsR (ts : List (List UInt8)) : Int := if NumsOk ts then 0 else 2
set_option maxHeartbeats 1000000 in
set_option maxRecDepth 100000 in
/-- vector.numbers. -/
theorem numbers_any (ts : List (List UInt8)) (v : Value) (w : World) (hE : Env w) (hv : Ts w v ts) (hl : ts.length ≤ 1000000) (h1 : ∀ k, k < ts.length → (ts.getD k []).length ≤ 4000000000) :
    Calls Tryz.prog 106 #[v] w (Ret (.int .i64 (numsR ts)) w) := by
  obtain ⟨b, off, c, rfl, hc, hcell⟩ := hv
  obtain ⟨R, hR⟩ : ∃ R, R = numsR ts := ⟨_, rfl⟩
  rw [← hR]
  have HR := Lib.hid hR
  have HC := Lib.hid hcell
  have HE := Lib.hid hE
  have H1 := Lib.hid h1
  clear hcell hE h1 hR
  go_enter Tryz.func106, Tryz.ntmps106
  go_wp2_with fail
  go_loopw [4, 5, 8] (fun s4 s5 i wr => ∃ (wq : World) (k : Nat), wq = wr ∧ k ≤ ts.length ∧ i = .int .i64 (k : Int) ∧ (∀ j, j < k → Rok (ts.getD j [])) ∧ Below w.heap.size w wq) (fun _ _ i _ => ((ts.length : Int) + 1 - intOf i).toNat)
  case atStart => exact ⟨_, 0, rfl, by omega, rfl, fun j h => by omega, Below.refl _ _⟩
  case round =>
    obtain ⟨wr, k, rfl, hk, rfl, hok, hbr⟩ := hrel
    have HOK := Lib.hid hok
    clear hok
    by_cases hlt : k < ts.length
    · have hcx := cell_below hbr (HC.out k hlt)
      have hlt' : (k : Int) < (ts.length : Int) := by omega
      have HLT := Lib.hid hlt
      clear hlt
      go_wp2_with fail
      refine (RCheck_any _ wr (HE.out.below hbr) (H1.out k HLT.out)).mono ?_
      by_cases hr : Rok (ts.getD k [])
      · rw [rchkR_ok hr]
        rintro e w1 ⟨rfl, hb1⟩
        have hbr1 := below_trans hbr hb1
        have HRK := Lib.hid hr
        clear hr
        go_wp2
        go_roundw
        case rel =>
          refine ⟨_, k + 1, rfl, by have := HLT.out; omega, by congr 1, fun j hj => ?_, hbr1⟩
          rcases Nat.lt_succ_iff_lt_or_eq.1 hj with h | rfl
          · exact HOK.out j h
          · exact HRK.out
        case measure => simp only [intOf]; omega
      · rw [rchkR_no hr]
        rintro e w1 ⟨rfl, hb1⟩
        have hR2 : R = 2 := by rw [HR.out, numsR, if_neg (fun h => hr (h k HLT.out))]
        have HR2 := Lib.hid hR2
        clear hR2 hr
        go_wp2
        go_ret
        exact ⟨by rw [HR2.out]; rfl, below_trans hbr hb1⟩
    · obtain rfl : k = ts.length := by omega
      have hR0 : R = 0 := by rw [HR.out, numsR, if_pos (show NumsOk ts from HOK.out)]
      have HR2 := Lib.hid hR0
      clear hR0
      go_wp2_with fail
      go_ret
      exact ⟨by rw [HR2.out]; rfl, hbr⟩

set_option maxHeartbeats 1000000 in
set_option maxRecDepth 100000 in
/-- vector.Check. -/
theorem VCheck_any (x y z : List UInt8) (w : World) (hE : Env w) (hx : x.length ≤ 4000000000) (hy : y.length ≤ 4000000000) (hz : z.length ≤ 4000000000) :
    Calls Tryz.prog 57 #[.agg #[.string (tx x), .string (tx y), .string (tx z)]] w (Ret (.int .i64 (numsR [x, y, z])) w) := by
  go_enter Tryz.func57, Tryz.ntmps57
  go_wp2_with fail
  have hb0 := (Below.refl w.heap.size w).alloc (Nat.le_refl _) (.cells #[.string (tx x), .string (tx y), .string (tx z)] 41)
  have hts := Ts_made (w.alloc (.cells #[.string (tx x), .string (tx y), .string (tx z)] 41)) 39 [x, y, z]
  have hb1 := hb0.alloc (by simp) (.cells ([x, y, z].map fun t => Value.string (tx t)).toArray 39)
  refine (numbers_any [x, y, z] _ _ (hE.below hb1) (by simpa using hts) (by simp) ?_).mono ?_
  · intro k hk
    match k, hk with
    | 0, _ => exact hx
    | 1, _ => exact hy
    | 2, _ => exact hz
  · rintro e w1 ⟨rfl, hb2⟩
    go_wp2
    go_ret
    exact ⟨rfl, below_trans hb1 hb2⟩
end Go.Proofs.Kl
/- The reference's rational numbers: small, Of of short integers. -/
namespace Go.Proofs.Kl
open Go.RowKit Go.Shelf
theorem Atoi_itoa (n : Int) (w : World) (h1 : -9223372036854775808 ≤ n) (h2 : n ≤ 9223372036854775807) :
    Calls Tryz.prog 166 #[.string (tx (Lib.itoa n))] w (Ret (.tuple #[.int .i64 n, .nilIface]) w) := by
  have hl : (Lib.itoa n).length ≤ 20 := by
    have h := (nDigits_le (u := n.natAbs) (k := 19) (by decide)).2 (by omega)
    have := itoa_len n; omega
  refine (Tryz.strconv_Atoi_ok (tx (Lib.itoa n)) (by show (Lib.itoa n).length ≤ _; omega) n (atoiAll_itoa n h1 h2) w).mono ?_
  rintro e w1 ⟨rfl, hw1⟩
  refine ⟨rfl, ?_⟩
  rcases hw1 with rfl | ⟨t, rfl⟩
  · exact Below.refl _ _
  · exact below_bytesWorld _ _ _
set_option maxHeartbeats 2000000 in
set_option maxRecDepth 100000 in
theorem R2small_i (n0 d0 : Int) (w : World) (hE : Env w) (hd0 : d0 ≠ 0) (hl1 : n0.natAbs < 1000000000) (hl2 : d0.natAbs < 1000000000) :
    Calls Tryz.prog 129 #[.string (tx (Lib.itoa n0)), .string (tx (Lib.itoa d0))] w (Ret (.string (tx (rt (Rat.divInt n0 d0)))) w) := by
  obtain ⟨n, hn⟩ : ∃ n, n = if d0 < 0 then -n0 else n0 := ⟨_, rfl⟩
  obtain ⟨d, hdd⟩ : ∃ d, d = d0.natAbs := ⟨_, rfl⟩
  have hd : 0 < d := by omega
  have hn1 : n.natAbs < 1000000000 := by rw [hn]; split <;> omega
  have hd1 : d < 1000000000 := by omega
  obtain ⟨q, hq⟩ : ∃ q, q = mkRat n d := ⟨_, rfl⟩
  have hdiv : Rat.divInt n0 d0 = q := by
    rw [hq, hn, hdd]
    by_cases h : d0 < 0
    · rw [divInt_flip h, if_pos h]; congr 1; omega
    · rw [divInt_pos (by omega), if_neg h]; congr 1; omega
  rw [hdiv]
  obtain ⟨e1, e2⟩ := divInt_num_den_pos (n := n) hd
  rw [← hq] at e1 e2
  obtain ⟨g, hg⟩ : ∃ g, g = Nat.gcd n.natAbs d := ⟨_, rfl⟩
  rw [← hg] at e1 e2
  have hg0 : 0 < g := by rw [hg]; exact Nat.gcd_pos_of_pos_right _ hd
  have hdv1 : (g : Int) ∣ n := by rw [hg, ← Int.dvd_natAbs]; exact Int.natCast_dvd_natCast.2 (Nat.gcd_dvd_left _ _)
  have hdv2 : (g : Int) ∣ (d : Int) := by rw [hg]; exact Int.natCast_dvd_natCast.2 (Nat.gcd_dvd_right _ _)
  have t1 : n.tdiv (g : Int) = q.num := by rw [e1, Int.tdiv_eq_ediv_of_dvd hdv1]
  have t2 : (d : Int) / (g : Int) = (q.den : Int) := by rw [e2]; simp
  have b1 : q.num.natAbs ≤ n.natAbs := by rw [e1]; exact Int.natAbs_ediv_le_natAbs _ _
  have b2 : q.den ≤ d := by rw [e2]; exact Nat.div_le_self _ _
  have b3 : -1000000000 ≤ q.num ∧ q.num ≤ 1000000000 ∧ q.den ≤ 1000000000 := by omega
  have T1 := Lib.hid t1
  have T2 := Lib.hid t2
  have HG := Lib.hid hg
  have HE := Lib.hid hE
  have HNN := Lib.hid hn
  have HDD := Lib.hid hdd
  have HB3 := Lib.hid b3
  clear e1 e2 hdv1 hdv2 t1 t2 hg hE hq hdiv hn hdd b1 b2 b3
  go_enter Tryz.func129, Tryz.ntmps129
  go_wp2_with fail
  refine (Atoi_itoa n0 w (by omega) (by omega)).mono ?_
  rintro e w1 ⟨rfl, hb1⟩
  go_wp2_with fail
  refine (Atoi_itoa d0 w1 (by omega) (by omega)).mono ?_
  rintro e w2 ⟨rfl, hb2⟩
  have hbr := below_trans hb1 hb2
  clear hb1 hb2
  go_upto_if 22 with fail
  go_cut [5, 7] (fun s5 s7 wi => s5 = .int .i64 n ∧ s7 = .int .i64 (d : Int) ∧ wi = w2)
  case first =>
    by_cases hneg : d0 < 0
    · have hb : -1000000000 < n0 ∧ n0 < 1000000000 ∧ -1000000000 < d0 := by omega
      go_wp2_with fail
      go_meet
      exact ⟨by rw [HNN.out, if_pos hneg], by congr 1; have := HDD.out; omega, rfl⟩
    · go_wp2_with fail
      go_meet
      exact ⟨by rw [HNN.out, if_neg (by omega)], by congr 1; have := HDD.out; omega, rfl⟩
  case rest =>
  obtain ⟨rfl, rfl, rfl⟩ := hcut
  have hnb : -1000000000 < n ∧ n < 1000000000 := by omega
  go_upto_if 30 with fail
  go_cut [9] (fun s9 wi => s9 = .int .i64 (n.natAbs : Int) ∧ wi = wc)
  case first =>
    by_cases hneg : n < 0
    · go_wp2_with fail
      go_meet
      exact ⟨by congr 1; omega, rfl⟩
    · go_wp2_with fail
      go_meet
      exact ⟨by congr 1; omega, rfl⟩
  case rest =>
  obtain ⟨rfl, rfl⟩ := hcut
  go_wp2_with fail
  go_loopw [9, 10] (fun x y wr => ∃ (wq : World) (u v : Nat), wq = wr ∧ x = .int .i64 (u : Int) ∧ y = .int .i64 (v : Int) ∧ u < 1000000000 ∧ v < 1000000000 ∧ Nat.gcd u v = g ∧ Below w.heap.size w wr)
    (fun _ y _ => (intOf y).toNat)
  case atStart => exact ⟨_, n.natAbs, d, rfl, rfl, rfl, hn1, hd1, HG.out.symm, hbr⟩
  case round =>
    obtain ⟨wr, u, v, rfl, rfl, rfl, hu, hv, hgg, hbr⟩ := hrel
    have HGG := Lib.hid hgg
    clear hgg
    by_cases hv0 : v = 0
    · subst hv0
      have hug : u = g := by rw [← HGG.out]; simp
      subst hug
      have hgz : ¬ (u : Int) = 0 := by omega
      have t1 := T1.out
      have t3 := T2.out
      obtain ⟨b3, b4, b5⟩ := HB3.out
      go_wp2_with fail
      go_quiet (fail)
      have hbw := below_drewN hbr nq
      generalize wr.drewN nq = w1 at *
      clear t1 t3
      have HEW := Lib.hid (HE.out.below hbw)
      have l1 : (Lib.itoa q.num).length ≤ 20 := by
        have h := (nDigits_le (u := q.num.natAbs) (k := 19) (by decide)).2 (by omega)
        have := itoa_len q.num; omega
      have l2 : (Lib.itoa (q.den : Int)).length ≤ 20 := by
        have h := (nDigits_le (u := q.den) (k := 19) (by decide)).2 (by omega)
        have := itoa_len (q.den : Int); rw [Int.natAbs_natCast] at this; omega
      by_cases hd1 : q.den = 1
      · have hd2 : (q.den : Int) = 1 := by omega
        have hrt := rt_whole hd1
        have HRT := Lib.hid hrt
        clear hrt hd1
        go_wp2_with fail
        refine (Itoa_any q.num (by omega) (by omega) w1 HEW.out).mono ?_
        rintro e w2 ⟨rfl, hb2⟩
        rw [← HRT.out]
        go_wp2
        go_ret
        exact ⟨rfl, below_trans hbw hb2⟩
      · have hd2 : ¬ (q.den : Int) = 1 := by omega
        have hrt := rt_part hd1
        have HRT := Lib.hid hrt
        clear hrt hd1
        go_wp2_with fail
        refine (Itoa_any q.num (by omega) (by omega) w1 HEW.out).mono ?_
        rintro e w2 ⟨rfl, hb2⟩
        go_wp2_with fail
        refine (Itoa_any (q.den : Int) (by omega) (by omega) w2 (HEW.out.below hb2)).mono ?_
        rintro e w3 ⟨rfl, hb3⟩
        go_wp2_with fail
        go_ret
        exact ⟨by rw [HRT.out, ← tx_slash, itoa_ofNat]; rfl, below_trans (below_trans hbw hb2) hb3⟩
    · have hm : u % v < v := Nat.mod_lt _ (by omega)
      have HM := Lib.hid hm
      have HM2 := Lib.hid (show Nat.gcd v (u % v) = Nat.gcd u v by rw [Nat.gcd_comm v, ← Nat.gcd_rec, Nat.gcd_comm])
      have hv1 : ¬ (v : Int) = 0 := by omega
      clear hm
      go_wp2_with fail
      go_quiet (fail)
      go_wp2
      go_roundw
      case rel => exact ⟨_, v, u % v, rfl, rfl, by congr 1, hv, by have := HM.out; omega, HM2.out.trans HGG.out, below_drewN hbr _⟩
      case measure => have := HM.out; simp only [intOf]; omega

set_option maxRecDepth 100000 in
theorem R1Of_any (n : Int) (h0 : -9223372036854775808 ≤ n) (h1 : n ≤ 9223372036854775807) (w : World) (hE : Env w) :
    Calls Tryz.prog 76 #[.int .i64 n] w (Ret (.string (tx (Lib.itoa n))) w) := by
  go_enter Tryz.func76, Tryz.ntmps76
  go_wp2_with (go_at_call 131; refine (Itoa_any n h0 h1 _ hE).mono ?_; rintro e w' ⟨rfl, hb⟩)
  go_ret
  exact ⟨rfl, hb⟩
set_option maxRecDepth 100000 in
theorem R2Fraction_short (n d : Int) (w : World) (hE : Env w) (hd0 : d ≠ 0) (hl1 : (Lib.itoa n).length ≤ 9) (hl2 : (Lib.itoa d).length ≤ 9) :
    Calls Tryz.prog 75 #[.string (tx (Lib.itoa n)), .string (tx (Lib.itoa d))] w (Ret (.string (tx (rt (Rat.divInt n d)))) w) := by
  have h1 := natAbs_of_len hl1 (by decide)
  have h2 := natAbs_of_len hl2 (by decide)
  have l1 : ((Lib.itoa n).length : Int) ≤ 9 := by omega
  have l2 : ((Lib.itoa d).length : Int) ≤ 9 := by omega
  have H := Lib.hid (R2small_i n d w hE hd0 h1 h2)
  clear hE hd0 h1 h2
  go_enter Tryz.func75, Tryz.ntmps75
  go_wp2_with fail
  refine H.out.mono ?_
  rintro e w1 ⟨rfl, hb1⟩
  go_wp2
  go_ret
  exact ⟨rfl, hb1⟩
set_option maxRecDepth 100000 in
theorem R2Of_short (n d : Int) (w : World) (hE : Env w) (hd0 : d ≠ 0) (hl1 : (Lib.itoa n).length ≤ 9) (hl2 : (Lib.itoa d).length ≤ 9) :
    Calls Tryz.prog 33 #[.int .i64 n, .int .i64 d] w (Ret (.string (tx (rt (Rat.divInt n d)))) w) := by
  have h1 := natAbs_of_len hl1 (by decide)
  have h2 := natAbs_of_len hl2 (by decide)
  go_enter Tryz.func33, Tryz.ntmps33
  go_wp2_with fail
  refine (R1Of_any n (by omega) (by omega) w hE).mono ?_
  rintro e w1 ⟨rfl, hb1⟩
  go_wp2_with fail
  refine (R1Of_any d (by omega) (by omega) w1 (hE.below hb1)).mono ?_
  rintro e w2 ⟨rfl, hb2⟩
  go_wp2_with fail
  refine (R2Fraction_short n d w2 ((hE.below hb1).below hb2) hd0 hl1 hl2).mono ?_
  rintro e w3 ⟨rfl, hb3⟩
  go_wp2
  go_ret
  exact ⟨rfl, below_trans (below_trans hb1 hb2) hb3⟩
end Go.Proofs.Kl
