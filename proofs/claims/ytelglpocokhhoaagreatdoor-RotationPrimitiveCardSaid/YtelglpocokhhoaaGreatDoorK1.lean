/- Part 1 of the proof: the contracts that the statement's proof uses. -/
import Derived.WalkKit
import Derived.LoopTactic
import Derived.BigQuiet
import Derived.Deep.QuietTactic
import Derived.Lib.Hide
import Derived.Below
import Derived.Outline
import Derived.Handy
import Derived.OwnWalk
import Derived.WalkSpells
import Derived.WalkLawsBesides
import Derived.KernelRfl
import Derived.Maps.AppendAt
import Derived.Deep.AppendLies
import Derived.Test.YtelglpocokhhoaaGreatDoorProg
import Derived.Lib.ItoaNum
import Derived.Lib.ParseIntB
import Derived.RangeFuncBox
import Derived.RangeFuncLeaves
import Derived.Shelf.Abstract
import Derived.OwnWalkIn
import Derived.TacticsInMore
import Derived.LoopNIn
import Derived.LoopIn
import Derived.OrdersHeld
import Derived.OrdersIn
import Derived.RangeFuncNested
import Derived.RangeFuncBound
import Derived.Deep.RegionHeld3
import Derived.Deep.RegionWith
import Derived.Stop.RegionWithIn
import Derived.RegionIn
import Derived.Laws.AppendOwnNone
import Derived.Deep.DeepCutAuto
/- Plain facts on decimal texts: the digits of a number, its value, and which texts are canonical. No program. -/
namespace Go.Proofs.Kl
open Go.Lib

/-- a byte is a digit. -/
def isD (c : UInt8) : Bool := 48 ≤ c.toNat && c.toNat ≤ 57

/-- the value of digits. -/
def dv (l : List UInt8) : Nat := l.foldl (fun a c => 10 * a + (c.toNat - 48)) 0

theorem dv_nil : dv [] = 0 := rfl
theorem dv_foldl (l : List UInt8) : ∀ a : Nat, l.foldl (fun a c => 10 * a + (c.toNat - 48)) a = a * 10 ^ l.length + dv l := by
  induction l with
  | nil => intro a; simp [dv]
  | cons c r ih =>
    intro a
    have h1 := ih (10 * a + (c.toNat - 48))
    have h2 := ih (10 * 0 + (c.toNat - 48))
    simp only [List.foldl_cons, dv, List.length_cons] at *
    rw [h1, h2, Nat.pow_succ]
    grind
theorem dv_append (l m : List UInt8) : dv (l ++ m) = dv l * 10 ^ m.length + dv m := by
  rw [dv, List.foldl_append, dv_foldl m]; rfl
theorem dv_single (c : UInt8) : dv [c] = c.toNat - 48 := by simp [dv]
theorem dv_cons (c : UInt8) (r : List UInt8) : dv (c :: r) = (c.toNat - 48) * 10 ^ r.length + dv r := by
  rw [show c :: r = [c] ++ r from rfl, dv_append, dv_single]
theorem dv_snoc (l : List UInt8) (c : UInt8) : dv (l ++ [c]) = 10 * dv l + (c.toNat - 48) := by
  rw [dv_append, dv_single]; simp; omega

theorem dv_lt (l : List UInt8) (h : ∀ c ∈ l, isD c = true) : dv l < 10 ^ l.length := by
  induction l with
  | nil => simp [dv]
  | cons c r ih =>
    rw [dv_cons, List.length_cons, Nat.pow_succ]
    have h1 := ih (fun d hd => h d (List.mem_cons_of_mem _ hd))
    have h2 := h c (List.mem_cons_self ..)
    simp [isD] at h2
    have : c.toNat - 48 ≤ 9 := by omega
    have := Nat.mul_le_mul_right (10 ^ r.length) this
    omega

theorem dig_toNat {k : Nat} (h : k < 10) : (UInt8.ofNat (48 + k)).toNat = 48 + k := by
  simp; omega
theorem isD_ofNat {k : Nat} (h : k < 10) : isD (UInt8.ofNat (48 + k)) = true := by
  simp only [isD, dig_toNat h]; simp; omega
theorem ofNat_sub {c : UInt8} (h : isD c = true) : UInt8.ofNat (48 + (c.toNat - 48)) = c := by
  simp only [isD, Bool.and_eq_true, decide_eq_true_eq] at h
  rw [show 48 + (c.toNat - 48) = c.toNat by omega]
  exact UInt8.ofNat_toNat

theorem decDigits_lt {u : Nat} (h : u < 10) : decDigits u = [UInt8.ofNat (48 + u)] := by rw [decDigits, dif_pos h]
theorem decDigits_ge {u : Nat} (h : ¬ u < 10) : decDigits u = decDigits (u / 10) ++ [UInt8.ofNat (48 + u % 10)] := by rw [decDigits, dif_neg h]
theorem decDigits_zero : decDigits 0 = [48] := by rw [decDigits_lt (by omega)]; rfl
theorem decDigits_one : decDigits 1 = [49] := by rw [decDigits_lt (by omega)]; rfl

theorem decDigits_isD (u : Nat) : ∀ c ∈ decDigits u, isD c = true := by
  induction u using Nat.strongRecOn with
  | _ u ih =>
    by_cases h : u < 10
    · rw [decDigits_lt h]; intro c hc; simp only [List.mem_singleton] at hc; subst hc; exact isD_ofNat h
    · rw [decDigits_ge h]; intro c hc
      rcases List.mem_append.1 hc with hc | hc
      · exact ih _ (by omega) c hc
      · simp only [List.mem_singleton] at hc; subst hc; exact isD_ofNat (by omega)

theorem dv_decDigits (u : Nat) : dv (decDigits u) = u := by
  induction u using Nat.strongRecOn with
  | _ u ih =>
    by_cases h : u < 10
    · rw [decDigits_lt h, dv_single, dig_toNat h]; omega
    · rw [decDigits_ge h, dv_snoc, ih _ (by omega), dig_toNat (by omega)]; omega

theorem decDigits_ne_nil (u : Nat) : decDigits u ≠ [] := by
  intro h; have := decDigits_length u; rw [h] at this; have := nDigits_pos u; simp at *; omega

theorem decDigits_inj {a b : Nat} (h : decDigits a = decDigits b) : a = b := by
  rw [← dv_decDigits a, h, dv_decDigits]

/-- canonical digits: at least one, and the first is 0 only where it is alone. -/
def isDec (l : List UInt8) : Bool := l.all isD && !l.isEmpty && (l.head? != some 48 || l.length == 1)

theorem decDigits_head (u : Nat) (h : 0 < u) : ∃ c r, decDigits u = c :: r ∧ c ≠ 48 := by
  induction u using Nat.strongRecOn with
  | _ u ih =>
    by_cases h1 : u < 10
    · refine ⟨_, [], decDigits_lt h1, ?_⟩
      intro e; have := congrArg UInt8.toNat e; rw [dig_toNat h1] at this; simp at this; omega
    · obtain ⟨c, r, e, hc⟩ := ih (u / 10) (by omega) (by omega)
      exact ⟨c, r ++ [_], by rw [decDigits_ge h1, e]; rfl, hc⟩

theorem isDec_decDigits (u : Nat) : isDec (decDigits u) = true := by
  unfold isDec
  simp only [Bool.and_eq_true, List.all_eq_true, Bool.not_eq_true', List.isEmpty_eq_false_iff, Bool.or_eq_true, bne_iff_ne, beq_iff_eq]
  refine ⟨⟨decDigits_isD u, decDigits_ne_nil u⟩, ?_⟩
  by_cases h : u = 0
  · subst h; right; rw [decDigits_zero]; rfl
  · obtain ⟨c, r, e, hc⟩ := decDigits_head u (by omega)
    left; rw [e]; simpa using hc

/-- digits with a first one that is not 0 are the digits of their value. -/
theorem decDigits_dv : ∀ (n : Nat) (l : List UInt8), l.length = n → isDec l = true → decDigits (dv l) = l := by
  intro n
  induction n with
  | zero => intro l hl h; obtain rfl := List.eq_nil_of_length_eq_zero hl; simp [isDec] at h
  | succ n ih =>
    intro l hl h
    have hne : l ≠ [] := by intro e; simp [e] at hl
    obtain ⟨m, c, rfl⟩ : ∃ m c, l = m ++ [c] := ⟨l.dropLast, l.getLast hne, (List.dropLast_concat_getLast hne).symm⟩
    have hm : m.length = n := by simpa using hl
    simp only [isDec, Bool.and_eq_true, List.all_append, Bool.or_eq_true, List.all_cons, List.all_nil, Bool.and_true] at h
    obtain ⟨⟨⟨hm1, hc⟩, -⟩, h3⟩ := h
    have hd : c.toNat - 48 < 10 := by simp [isD] at hc; omega
    cases m with
    | nil =>
      simp only [List.nil_append, dv_single]
      rw [decDigits_lt hd, ofNat_sub hc]
    | cons a r =>
      have ha : a ≠ 48 := by
        rcases h3 with h3 | h3
        · simpa using h3
        · simp at h3
      have hmdec : isDec (a :: r) = true := by
        simp only [isDec, hm1, Bool.true_and, Bool.and_eq_true, Bool.or_eq_true]
        exact ⟨by simp, Or.inl (by simpa using ha)⟩
      have := ih (a :: r) hm hmdec
      have hpos : 0 < dv (a :: r) := by
        apply Nat.pos_of_ne_zero; intro e; rw [e, decDigits_zero] at this
        injection this with e1 _; exact ha e1.symm
      rw [dv_snoc, decDigits_ge (by omega)]
      rw [show (10 * dv (a :: r) + (c.toNat - 48)) / 10 = dv (a :: r) by omega, show (10 * dv (a :: r) + (c.toNat - 48)) % 10 = c.toNat - 48 by omega, this, ofNat_sub hc]

theorem isDec_iff (l : List UInt8) : isDec l = true ↔ ∃ u, l = decDigits u :=
  ⟨fun h => ⟨dv l, (decDigits_dv _ l rfl h).symm⟩, fun ⟨u, e⟩ => by rw [e]; exact isDec_decDigits u⟩

theorem decDigits_cons_digit (u : Nat) : ∃ c r, decDigits u = c :: r ∧ isD c = true := by
  cases h : decDigits u with
  | nil => exact absurd h (decDigits_ne_nil u)
  | cons c r => exact ⟨c, r, rfl, decDigits_isD u c (by rw [h]; exact List.mem_cons_self ..)⟩

/-! how long -/
theorem nDigits_le {u k : Nat} (hk : 0 < k) : nDigits u ≤ k ↔ u < 10 ^ k := by
  constructor
  · intro h
    exact Nat.lt_of_lt_of_le (lt_pow_nDigits u) (Nat.pow_le_pow_right (by decide) h)
  · intro h
    by_cases h0 : nDigits u ≤ 1
    · omega
    · have hp := nDigits_pos u
      have hge : 10 ^ (nDigits u - 1) ≤ u := by
        have key : ∀ n u : Nat, nDigits u = n + 1 → n ≥ 1 → 10 ^ n ≤ u := by
          intro n
          induction n with
          | zero => intro u _ h; omega
          | succ n ih =>
            intro u e _
            by_cases hu : u < 10
            · rw [nDigits_small hu] at e; omega
            · rw [nDigits_big hu] at e
              by_cases hn : n = 0
              · subst hn; simp; omega
              · have := ih (u / 10) (by omega) (by omega)
                rw [Nat.pow_succ]; omega
        exact key _ u (by omega) (by omega)
      have : nDigits u - 1 < k := (Nat.pow_lt_pow_iff_right (a := 10) (by decide)).1 (Nat.lt_of_le_of_lt hge h)
      omega
theorem nDigits_mono {a b : Nat} (h : a ≤ b) : nDigits a ≤ nDigits b :=
  (nDigits_le (nDigits_pos b)).2 (Nat.lt_of_le_of_lt h (lt_pow_nDigits b))

/-! the text of an integer -/
theorem itoa_nonneg {n : Int} (h : 0 ≤ n) : itoa n = decDigits n.toNat := by unfold itoa; rw [if_neg (by omega)]
theorem itoa_neg {n : Int} (h : n < 0) : itoa n = 45 :: decDigits n.natAbs := by unfold itoa; rw [if_pos h]
theorem itoa_ofNat (n : Nat) : itoa (n : Int) = decDigits n := by rw [itoa_nonneg (by omega)]; rfl
theorem decDigits_ne_minus (u : Nat) (r : List UInt8) : decDigits u ≠ 45 :: r := by
  intro h
  have := decDigits_isD u 45 (by rw [h]; exact List.mem_cons_self ..)
  simp [isD] at this
theorem itoa_inj {a b : Int} (h : itoa a = itoa b) : a = b := by
  by_cases ha : a < 0 <;> by_cases hb : b < 0
  · rw [itoa_neg ha, itoa_neg hb] at h; injection h with _ h; have := decDigits_inj h; omega
  · rw [itoa_neg ha, itoa_nonneg (by omega)] at h; exact absurd h.symm (decDigits_ne_minus _ _)
  · rw [itoa_neg hb, itoa_nonneg (by omega)] at h; exact absurd h (decDigits_ne_minus _ _)
  · rw [itoa_nonneg (by omega), itoa_nonneg (by omega)] at h; have := decDigits_inj h; omega
theorem itoa_zero : itoa 0 = [48] := by rw [itoa_nonneg (by omega)]; exact decDigits_zero
theorem itoa_one : itoa 1 = [49] := by rw [itoa_nonneg (by omega)]; exact decDigits_one
theorem itoa_ne_nil (n : Int) : itoa n ≠ [] := by
  unfold itoa; split
  · simp
  · exact decDigits_ne_nil _

/-- the bytes of an integer: no slash. -/
theorem decDigits_no_slash (u : Nat) : (47 : UInt8) ∉ decDigits u := by
  intro h; have := decDigits_isD u _ h; simp [isD] at this
theorem itoa_no_slash (n : Int) : (47 : UInt8) ∉ itoa n := by
  unfold itoa; split
  · intro h; rcases List.mem_cons.1 h with h | h
    · exact absurd h (by decide)
    · exact decDigits_no_slash _ h
  · exact decDigits_no_slash _

/-- order of digits of one length. -/
theorem dv_append_lt {a b : List UInt8} (ha : ∀ c ∈ a, isD c = true) (hl : a.length = b.length) (c d : UInt8) (hc : isD c = true) (hd : isD d = true) (h : c.toNat < d.toNat) : dv (c :: a) < dv (d :: b) := by
  rw [dv_cons, dv_cons, ← hl]
  have := dv_lt a ha
  simp [isD] at hc hd
  have h2 : c.toNat - 48 + 1 ≤ d.toNat - 48 := by omega
  have := Nat.mul_le_mul_right (10 ^ a.length) h2
  rw [Nat.add_mul] at this
  omega

end Go.Proofs.Kl
/- Plain facts on integers in pieces of a base, the least piece first. No program. -/
namespace Go.Proofs.Kl
open Go.Lib

/-- the value of pieces. -/
def pv (B : Nat) : List Nat → Nat
  | [] => 0
  | x :: r => x + B * pv B r

/-- pieces are below the base. -/
def Bel (B : Nat) (p : List Nat) : Prop := ∀ x ∈ p, x < B

/-- zeros at the end are left out. -/
def ptrim (p : List Nat) : List Nat := (p.reverse.dropWhile (· == 0)).reverse

/-- no zero at the end. -/
def Tr (p : List Nat) : Prop := p.getLast? ≠ some 0

theorem pv_append (B : Nat) (p q : List Nat) : pv B (p ++ q) = pv B p + B ^ p.length * pv B q := by
  induction p with
  | nil => simp [pv]
  | cons x r ih => simp only [List.cons_append, pv, ih, List.length_cons, Nat.pow_succ]; grind

theorem pv_snoc (B : Nat) (p : List Nat) (x : Nat) : pv B (p ++ [x]) = pv B p + B ^ p.length * x := by
  rw [pv_append]; simp [pv]

theorem pv_lt (B : Nat) (p : List Nat) (h : Bel B p) : pv B p < B ^ p.length := by
  induction p with
  | nil => simp [pv]
  | cons x r ih =>
    have h1 := ih (fun y hy => h y (List.mem_cons_of_mem _ hy))
    have h2 := h x (List.mem_cons_self ..)
    simp only [pv, List.length_cons, Nat.pow_succ]
    have : B * (pv B r + 1) ≤ B * B ^ r.length := Nat.mul_le_mul_left B h1
    rw [Nat.mul_add] at this
    rw [Nat.mul_comm (B ^ r.length) B]; omega

theorem ptrim_nil : ptrim [] = [] := rfl
theorem ptrim_snoc_zero (p : List Nat) : ptrim (p ++ [0]) = ptrim p := by simp [ptrim]
theorem ptrim_snoc (p : List Nat) (x : Nat) (h : x ≠ 0) : ptrim (p ++ [x]) = p ++ [x] := by
  simp [ptrim, h]

theorem snoc_cases (p : List Nat) : p = [] ∨ ∃ m x, p = m ++ [x] := by
  by_cases h : p = []
  · exact Or.inl h
  · exact Or.inr ⟨p.dropLast, p.getLast h, (List.dropLast_concat_getLast h).symm⟩

theorem ptrim_ind (P : List Nat → Prop) (h0 : P []) (hs : ∀ m x, P m → P (m ++ [x])) : ∀ p, P p := by
  intro p
  have key : ∀ n p, List.length p = n → P p := by
    intro n
    induction n with
    | zero => intro p hp; rw [List.eq_nil_of_length_eq_zero hp]; exact h0
    | succ n ih =>
      intro p hp
      rcases snoc_cases p with e | ⟨m, x, e⟩
      · subst e; exact h0
      · subst e; exact hs m x (ih m (by simpa using hp))
  exact key _ p rfl

theorem pv_ptrim (B : Nat) (p : List Nat) : pv B (ptrim p) = pv B p := by
  refine ptrim_ind (fun p => pv B (ptrim p) = pv B p) rfl ?_ p
  intro m x ih
  by_cases h : x = 0
  · subst h; rw [ptrim_snoc_zero, ih, pv_snoc]; simp
  · rw [ptrim_snoc m x h]

theorem Bel_snoc {B : Nat} {m : List Nat} {x : Nat} : Bel B (m ++ [x]) ↔ Bel B m ∧ x < B := by
  simp only [Bel, List.mem_append, List.mem_singleton]
  exact ⟨fun h => ⟨fun y hy => h y (Or.inl hy), h x (Or.inr rfl)⟩, fun h y hy => by rcases hy with hy | rfl; exact h.1 y hy; exact h.2⟩

theorem Bel_ptrim {B : Nat} (p : List Nat) (h : Bel B p) : Bel B (ptrim p) := by
  revert h
  refine ptrim_ind (fun p => Bel B p → Bel B (ptrim p)) (fun h => h) ?_ p
  intro m x ih h
  by_cases e : x = 0
  · subst e; rw [ptrim_snoc_zero]; exact ih (Bel_snoc.1 h).1
  · rw [ptrim_snoc m x e]; exact h

theorem Tr_ptrim (p : List Nat) : Tr (ptrim p) := by
  refine ptrim_ind (fun p => Tr (ptrim p)) (by simp [Tr, ptrim]) ?_ p
  intro m x ih
  by_cases e : x = 0
  · subst e; rw [ptrim_snoc_zero]; exact ih
  · rw [ptrim_snoc m x e]; simp [Tr, e]

theorem ptrim_of_Tr (p : List Nat) (h : Tr p) : ptrim p = p := by
  rcases snoc_cases p with e | ⟨m, x, e⟩
  · subst e; rfl
  · subst e; exact ptrim_snoc m x (by simpa [Tr] using h)

theorem ptrim_length (p : List Nat) : (ptrim p).length ≤ p.length := by
  refine ptrim_ind (fun p => (ptrim p).length ≤ p.length) (by simp [ptrim]) ?_ p
  intro m x ih
  by_cases e : x = 0
  · subst e; rw [ptrim_snoc_zero]; simp; omega
  · rw [ptrim_snoc m x e]; simp

theorem ptrim_prefix (p : List Nat) : ∃ k, p = ptrim p ++ List.replicate k 0 := by
  refine ptrim_ind (fun p => ∃ k, p = ptrim p ++ List.replicate k 0) ⟨0, rfl⟩ ?_ p
  intro m x ⟨k, ih⟩
  by_cases e : x = 0
  · subst e; refine ⟨k + 1, ?_⟩; rw [ptrim_snoc_zero, List.replicate_succ', ← List.append_assoc, ← ih]
  · exact ⟨0, by rw [ptrim_snoc m x e]; simp⟩

/-- good pieces: below the base, no zero at the end. -/
structure Good (B : Nat) (p : List Nat) : Prop where
  bel : Bel B p
  tr : Tr p

theorem Good_nil (B : Nat) : Good B [] := ⟨fun x h => by simp at h, by simp [Tr]⟩
theorem Good_ptrim {B : Nat} {p : List Nat} (h : Bel B p) : Good B (ptrim p) := ⟨Bel_ptrim p h, Tr_ptrim p⟩

theorem Good_snoc {B : Nat} {m : List Nat} {x : Nat} : Good B (m ++ [x]) ↔ Bel B m ∧ x < B ∧ x ≠ 0 := by
  constructor
  · intro h; exact ⟨(Bel_snoc.1 h.bel).1, (Bel_snoc.1 h.bel).2, by simpa [Tr] using h.tr⟩
  · intro h; exact ⟨Bel_snoc.2 ⟨h.1, h.2.1⟩, by simpa [Tr] using h.2.2⟩

theorem Good_pos {B : Nat} {p : List Nat} (h : Good B p) (hB : 0 < B) : pv B p = 0 ↔ p = [] := by
  constructor
  · intro e
    rcases snoc_cases p with e' | ⟨m, x, e'⟩
    · exact e'
    · subst e'
      have := (Good_snoc.1 h).2.2
      rw [pv_snoc] at e
      have h1 : 0 < B ^ m.length * x := Nat.mul_pos (Nat.pow_pos hB) (by omega)
      omega
  · intro e; subst e; rfl

theorem pv_ge_of_snoc {B : Nat} {m : List Nat} {x : Nat} (hx : x ≠ 0) : B ^ m.length ≤ pv B (m ++ [x]) := by
  rw [pv_snoc]
  have : B ^ m.length * 1 ≤ B ^ m.length * x := Nat.mul_le_mul_left _ (by omega)
  omega

/-- of good pieces the longer ones are the greater number. -/
theorem Good_len_lt {B : Nat} {p q : List Nat} (hB : 1 < B) (hp : Bel B p) (hq : Good B q) (h : p.length < q.length) : pv B p < pv B q := by
  rcases snoc_cases q with e | ⟨m, x, e⟩
  · subst e; simp at h
  · subst e
    have h1 := pv_lt B p hp
    have h2 : B ^ m.length ≤ pv B (m ++ [x]) := pv_ge_of_snoc (Good_snoc.1 hq).2.2
    have h3 : B ^ p.length ≤ B ^ m.length := Nat.pow_le_pow_right (by omega) (by simp at h; omega)
    omega

theorem pv_snoc_lt {B : Nat} {p q : List Nat} (hl : p.length = q.length) (hp : Bel B p) {x y : Nat} (h : x < y) : pv B (p ++ [x]) < pv B (q ++ [y]) := by
  rw [pv_snoc, pv_snoc, ← hl]
  have h1 := pv_lt B p hp
  have h2 : B ^ p.length * (x + 1) ≤ B ^ p.length * y := Nat.mul_le_mul_left _ h
  rw [Nat.mul_add] at h2
  omega

theorem pv_inj_len {B : Nat} : ∀ (p q : List Nat), p.length = q.length → Bel B p → Bel B q → pv B p = pv B q → p = q := by
  intro p
  refine ptrim_ind (fun p => ∀ q, p.length = q.length → Bel B p → Bel B q → pv B p = pv B q → p = q) ?_ ?_ p
  · intro q hl _ _ _; exact (List.eq_nil_of_length_eq_zero hl.symm).symm
  · intro m x ih q hl hp hq e
    rcases snoc_cases q with e' | ⟨n, y, e'⟩
    · subst e'; simp at hl
    · subst e'
      have hl' : m.length = n.length := by simpa using hl
      have hm := (Bel_snoc.1 hp).1
      have hn := (Bel_snoc.1 hq).1
      rcases Nat.lt_trichotomy x y with h | h | h
      · have := pv_snoc_lt hl' hm h; omega
      · subst h
        rw [pv_snoc, pv_snoc, ← hl'] at e
        rw [ih n hl' hm hn (by omega)]
      · have := pv_snoc_lt hl'.symm hn h; omega

theorem Good_inj {B : Nat} {p q : List Nat} (hB : 1 < B) (hp : Good B p) (hq : Good B q) (e : pv B p = pv B q) : p = q := by
  rcases Nat.lt_trichotomy p.length q.length with h | h | h
  · have := Good_len_lt hB hp.bel hq h; omega
  · exact pv_inj_len p q h hp.bel hq.bel e
  · have := Good_len_lt hB hq.bel hp h; omega

/-- the pieces of a number. -/
def pcs (B : Nat) (n : Nat) : List Nat :=
  if _h : n = 0 ∨ B < 2 then [] else n % B :: pcs B (n / B)
termination_by n
decreasing_by exact Nat.div_lt_self (by omega) (by omega)

theorem pcs_zero (B : Nat) : pcs B 0 = [] := by rw [pcs, dif_pos (Or.inl rfl)]
theorem pcs_pos {B n : Nat} (hB : 2 ≤ B) (h : n ≠ 0) : pcs B n = n % B :: pcs B (n / B) := by rw [pcs, dif_neg (by omega)]
theorem pv_pcs {B : Nat} (hB : 2 ≤ B) (n : Nat) : pv B (pcs B n) = n := by
  induction n using Nat.strongRecOn with
  | _ n ih =>
    by_cases h : n = 0
    · subst h; rw [pcs_zero]; rfl
    · rw [pcs_pos hB h, pv, ih (n / B) (Nat.div_lt_self (by omega) (by omega))]
      exact Nat.mod_add_div n B
theorem Good_cons {B x : Nat} {r : List Nat} (hx : x < B) (hr : Good B r) (h : r ≠ [] ∨ x ≠ 0) : Good B (x :: r) := by
  refine ⟨fun y hy => ?_, ?_⟩
  · rcases List.mem_cons.1 hy with rfl | hy
    · exact hx
    · exact hr.bel y hy
  · unfold Tr
    cases r with
    | nil => simpa using h
    | cons a s => rw [List.getLast?_cons_cons]; exact hr.tr
theorem Good_pcs {B : Nat} (hB : 2 ≤ B) (n : Nat) : Good B (pcs B n) := by
  induction n using Nat.strongRecOn with
  | _ n ih =>
    by_cases h : n = 0
    · subst h; rw [pcs_zero]; exact Good_nil B
    · rw [pcs_pos hB h]
      refine Good_cons (Nat.mod_lt _ (by omega)) (ih (n / B) (Nat.div_lt_self (by omega) (by omega))) ?_
      by_cases h1 : n / B = 0
      · right
        have := Nat.mod_add_div n B
        rw [h1] at this; simp at this; omega
      · left; rw [pcs_pos hB h1]; simp
theorem pcs_pv {B : Nat} (hB : 2 ≤ B) {p : List Nat} (h : Good B p) : pcs B (pv B p) = p :=
  Good_inj (by omega) (Good_pcs hB _) h (pv_pcs hB _)

end Go.Proofs.Kl
/- Plain facts: the rounds of adding, taking away, multiplying and dividing pieces. No program. -/
namespace Go.Proofs.Kl

theorem pv_take_succ (B : Nat) (p : List Nat) (k : Nat) : pv B (p.take (k + 1)) = pv B (p.take k) + B ^ k * p.getD k 0 := by
  by_cases h : k < p.length
  · rw [List.take_succ_eq_append_getElem h, pv_snoc, List.length_take, Nat.min_eq_left (by omega)]
    simp [List.getD, h]
  · rw [List.take_of_length_le (by omega), List.take_of_length_le (by omega)]
    simp [List.getD, List.getElem?_eq_none (show p.length ≤ k by omega)]

theorem getD_lt {B : Nat} (hB : 0 < B) {p : List Nat} (h : Bel B p) (k : Nat) : p.getD k 0 < B := by
  by_cases hk : k < p.length
  · simp [List.getD, hk]; exact h _ (List.getElem_mem hk)
  · simp [List.getD, List.getElem?_eq_none (show p.length ≤ k by omega)]; exact hB

/-- what stands after k rounds of plus. -/
structure PlusAt (B : Nat) (a b : List Nat) (k : Nat) (out : List Nat) (c : Nat) : Prop where
  len : out.length = k
  bel : Bel B out
  small : c ≤ 1
  val : pv B out + B ^ k * c = pv B (a.take k) + pv B (b.take k)

theorem PlusAt.zero (B : Nat) (a b : List Nat) : PlusAt B a b 0 [] 0 := ⟨rfl, fun x h => by simp at h, by omega, by simp [pv]⟩
theorem PlusAt.step {B : Nat} (hB : 1 < B) {a b : List Nat} {k : Nat} {out : List Nat} {c : Nat} (ha : Bel B a) (hb : Bel B b) (h : PlusAt B a b k out c) :
    PlusAt B a b (k + 1) (out ++ [(c + a.getD k 0 + b.getD k 0) % B]) ((c + a.getD k 0 + b.getD k 0) / B) := by
  have h1 := getD_lt (by omega) ha k
  have h2 := getD_lt (by omega) hb k
  have h3 := h.small
  refine ⟨by simp [h.len], Bel_snoc.2 ⟨h.bel, Nat.mod_lt _ (by omega)⟩, ?_, ?_⟩
  · have : (c + a.getD k 0 + b.getD k 0) < B * 2 := by omega
    have := (Nat.div_lt_iff_lt_mul (k := B) (by omega)).2 (show (c + a.getD k 0 + b.getD k 0) < 2 * B by omega)
    omega
  · rw [pv_snoc, pv_take_succ, pv_take_succ, h.len]
    have hv := h.val
    generalize hs : c + a.getD k 0 + b.getD k 0 = s
    have e := Nat.mod_add_div s B
    have e2 : B ^ k * (s % B) + B ^ (k + 1) * (s / B) = B ^ k * s := by
      rw [Nat.pow_succ, Nat.mul_assoc, ← Nat.mul_add, e]
    have e3 : B ^ k * s = B ^ k * c + B ^ k * a.getD k 0 + B ^ k * b.getD k 0 := by rw [← hs, Nat.mul_add, Nat.mul_add]
    omega
theorem PlusAt.done {B : Nat} (hB : 1 < B) {a b : List Nat} {out : List Nat} {c : Nat} (hl : b.length ≤ a.length) (h : PlusAt B a b a.length out c) :
    ptrim (out ++ [c]) = pcs B (pv B a + pv B b) := by
  have hv := h.val
  rw [List.take_length, List.take_of_length_le hl] at hv
  have hb : Bel B (out ++ [c]) := Bel_snoc.2 ⟨h.bel, by have := h.small; omega⟩
  refine Good_inj hB (Good_ptrim hb) (Good_pcs (by omega) _) ?_
  rw [pv_ptrim, pv_pcs (by omega), pv_snoc, h.len, hv]

/-- what stands after k rounds of minus. -/
structure MinusAt (B : Nat) (a b : List Nat) (k : Nat) (out : List Nat) (c : Nat) : Prop where
  len : out.length = k
  bel : Bel B out
  small : c ≤ 1
  val : pv B out + pv B (b.take k) = pv B (a.take k) + B ^ k * c

theorem MinusAt.zero (B : Nat) (a b : List Nat) : MinusAt B a b 0 [] 0 := ⟨rfl, fun x h => by simp at h, by omega, by simp [pv]⟩
theorem MinusAt.step_ge {B : Nat} (hB : 1 < B) {a b : List Nat} {k : Nat} {out : List Nat} {c : Nat} (ha : Bel B a) (h : MinusAt B a b k out c) (hge : c + b.getD k 0 ≤ a.getD k 0) :
    MinusAt B a b (k + 1) (out ++ [a.getD k 0 - (c + b.getD k 0)]) 0 := by
  have h1 := getD_lt (by omega) ha k
  refine ⟨by simp [h.len], Bel_snoc.2 ⟨h.bel, by omega⟩, by omega, ?_⟩
  rw [pv_snoc, pv_take_succ, pv_take_succ, h.len]
  have hv := h.val
  obtain ⟨t, ht⟩ : ∃ t, a.getD k 0 = c + b.getD k 0 + t := ⟨a.getD k 0 - (c + b.getD k 0), by omega⟩
  rw [ht, show c + b.getD k 0 + t - (c + b.getD k 0) = t by omega, Nat.mul_add, Nat.mul_add]
  omega
theorem MinusAt.step_lt {B : Nat} (hB : 1 < B) {a b : List Nat} {k : Nat} {out : List Nat} {c : Nat} (hb : Bel B b) (h : MinusAt B a b k out c) (hlt : a.getD k 0 < c + b.getD k 0) :
    MinusAt B a b (k + 1) (out ++ [a.getD k 0 + B - (c + b.getD k 0)]) 1 := by
  have h2 := getD_lt (by omega) hb k
  have h3 := h.small
  refine ⟨by simp [h.len], Bel_snoc.2 ⟨h.bel, by omega⟩, by omega, ?_⟩
  rw [pv_snoc, pv_take_succ, pv_take_succ, h.len]
  have hv := h.val
  obtain ⟨t, ht⟩ : ∃ t, a.getD k 0 + B = c + b.getD k 0 + t := ⟨a.getD k 0 + B - (c + b.getD k 0), by omega⟩
  rw [show a.getD k 0 + B - (c + b.getD k 0) = t by omega]
  have e1 : B ^ k * (a.getD k 0 + B) = B ^ k * (c + b.getD k 0 + t) := by rw [ht]
  rw [Nat.mul_add, Nat.mul_add, Nat.mul_add] at e1
  rw [Nat.pow_succ]
  omega
theorem MinusAt.done {B : Nat} (hB : 1 < B) {a b : List Nat} {out : List Nat} {c : Nat} (hl : b.length ≤ a.length) (hv2 : pv B b ≤ pv B a) (h : MinusAt B a b a.length out c) :
    ptrim out = pcs B (pv B a - pv B b) := by
  have hv := h.val
  rw [List.take_length, List.take_of_length_le hl] at hv
  have h1 := pv_lt B out h.bel
  rw [h.len] at h1
  have hc : c = 0 := by
    have := h.small
    by_cases e : c = 0
    · exact e
    · have : c = 1 := by omega
      subst this; omega
  subst hc
  refine Good_inj hB (Good_ptrim h.bel) (Good_pcs (by omega) _) ?_
  rw [pv_ptrim, pv_pcs (by omega)]; simp at hv; omega

theorem pv_set (B : Nat) (l : List Nat) (k v : Nat) (h : k < l.length) : pv B (l.set k v) + B ^ k * l.getD k 0 = pv B l + B ^ k * v := by
  induction l generalizing k with
  | nil => simp at h
  | cons x r ih =>
    cases k with
    | zero => simp [pv]; omega
    | succ k =>
      have := ih k (by simpa using h)
      simp only [List.set_cons_succ, pv, List.getD_cons_succ, Nat.pow_succ]
      have e := congrArg (B * ·) this
      simp only [Nat.mul_add] at e
      have e1 : B ^ k * B * r.getD k 0 = B * (B ^ k * r.getD k 0) := by grind
      have e2 : B ^ k * B * v = B * (B ^ k * v) := by grind
      omega
theorem Bel_set {B : Nat} {l : List Nat} (h : Bel B l) (k v : Nat) (hv : v < B) : Bel B (l.set k v) := by
  intro x hx
  rcases List.mem_or_eq_of_mem_set hx with hx | hx
  · exact h x hx
  · omega
theorem Bel_replicate (B n : Nat) (hB : 0 < B) : Bel B (List.replicate n 0) := by
  intro x hx; have := List.eq_of_mem_replicate hx; omega
theorem pv_replicate (B n : Nat) : pv B (List.replicate n 0) = 0 := by
  induction n with
  | zero => rfl
  | succ n ih => rw [List.replicate_succ, pv, ih]; simp

/-- what stands in the inner loop of times, at round i of the outer one. -/
structure TimesIn (B : Nat) (a b : List Nat) (n i k : Nat) (out : List Nat) (c : Nat) : Prop where
  len : out.length = n
  bel : Bel B out
  small : c < B
  val : pv B out + B ^ (i + k) * c = pv B (a.take i) * pv B b + B ^ i * (a.getD i 0 * pv B (b.take k))

theorem TimesIn.start {B : Nat} (hB : 1 < B) {a b : List Nat} {n i : Nat} {out : List Nat} (hl : out.length = n) (hb : Bel B out) (hv : pv B out = pv B (a.take i) * pv B b) :
    TimesIn B a b n i 0 out 0 := ⟨hl, hb, by omega, by simp [pv, hv]⟩
theorem mul_lt_bound {B x y : Nat} (hx : x < B) (hy : y < B) : x * y ≤ (B - 1) * (B - 1) := Nat.mul_le_mul (by omega) (by omega)
theorem times_carry {B x y o c : Nat} (hx : x < B) (hy : y < B) (ho : o < B) (hc : c < B) : c + (o + x * y) < B * B := by
  have := mul_lt_bound hx hy
  obtain ⟨D, rfl⟩ : ∃ D, B = D + 1 := ⟨B - 1, by omega⟩
  simp only [Nat.add_sub_cancel] at this
  have : (D + 1) * (D + 1) = D * D + D + D + 1 := by grind
  omega
theorem TimesIn.step {B : Nat} (hB : 1 < B) {a b : List Nat} {n i k : Nat} {out : List Nat} {c : Nat} (ha : Bel B a) (hb : Bel B b) (hk : i + k < n) (h : TimesIn B a b n i k out c) :
    TimesIn B a b n i (k + 1) (out.set (i + k) ((c + (out.getD (i + k) 0 + a.getD i 0 * b.getD k 0)) % B)) ((c + (out.getD (i + k) 0 + a.getD i 0 * b.getD k 0)) / B) := by
  have h1 := getD_lt (by omega) ha i
  have h2 := getD_lt (by omega) hb k
  have h3 := getD_lt (by omega) h.bel (i + k)
  have h4 := times_carry h1 h2 h3 h.small
  have hv := h.val
  refine ⟨by simp [h.len], Bel_set h.bel _ _ (Nat.mod_lt _ (by omega)), (Nat.div_lt_iff_lt_mul (by omega)).2 h4, ?_⟩
  have hs := pv_set B out (i + k) ((c + (out.getD (i + k) 0 + a.getD i 0 * b.getD k 0)) % B) (by rw [h.len]; exact hk)
  generalize hS : c + (out.getD (i + k) 0 + a.getD i 0 * b.getD k 0) = S at *
  have e := Nat.mod_add_div S B
  have e2 : B ^ (i + k) * (S % B) + B ^ (i + (k + 1)) * (S / B) = B ^ (i + k) * S := by
    rw [show i + (k + 1) = i + k + 1 by omega, Nat.pow_succ, Nat.mul_assoc, ← Nat.mul_add, e]
  have e3 : B ^ (i + k) * S = B ^ (i + k) * c + (B ^ (i + k) * out.getD (i + k) 0 + B ^ (i + k) * (a.getD i 0 * b.getD k 0)) := by rw [← hS, Nat.mul_add, Nat.mul_add]
  rw [pv_take_succ, Nat.mul_add, Nat.mul_add]
  have e4 : B ^ i * (a.getD i 0 * (B ^ k * b.getD k 0)) = B ^ (i + k) * (a.getD i 0 * b.getD k 0) := by rw [Nat.pow_add]; grind
  omega

/-- what stands in the loop that carries on. -/
structure TimesOn (B : Nat) (a b : List Nat) (n i k : Nat) (out : List Nat) (c : Nat) : Prop where
  len : out.length = n
  bel : Bel B out
  small : c < B
  val : pv B out + B ^ k * c = pv B (a.take (i + 1)) * pv B b
theorem TimesIn.on {B : Nat} {a b : List Nat} {n i : Nat} {out : List Nat} {c : Nat} (h : TimesIn B a b n i b.length out c) : TimesOn B a b n i (i + b.length) out c := by
  refine ⟨h.len, h.bel, h.small, ?_⟩
  rw [h.val, List.take_length, pv_take_succ, Nat.add_mul, Nat.mul_assoc]
theorem TimesOn.lt {B : Nat} (hB : 1 < B) {a b : List Nat} {i k : Nat} {out : List Nat} {c : Nat} (ha : Bel B a) (hb : Bel B b) (hi : i < a.length) (h : TimesOn B a b (a.length + b.length + 1) i k out c) (hc : 0 < c) :
    k < a.length + b.length := by
  have h1 := pv_lt B (a.take (i + 1)) (fun x hx => ha x (List.mem_of_mem_take hx))
  have h2 := pv_lt B b hb
  have hv := h.val
  have h3 : pv B (a.take (i + 1)) * pv B b < B ^ (a.take (i + 1)).length * B ^ b.length := by
    have hp : 0 < B ^ b.length := Nat.pow_pos (by omega)
    exact Nat.mul_lt_mul_of_lt_of_le h1 (by omega) hp
  rw [List.length_take, Nat.min_eq_left (by omega), ← Nat.pow_add] at h3
  have h4 : B ^ k * 1 ≤ B ^ k * c := Nat.mul_le_mul_left _ hc
  have h5 : B ^ k < B ^ (i + 1 + b.length) := by omega
  have := (Nat.pow_lt_pow_iff_right hB).1 h5
  omega
theorem TimesOn.step {B : Nat} (hB : 1 < B) {a b : List Nat} {n i k : Nat} {out : List Nat} {c : Nat} (hk : k < n) (h : TimesOn B a b n i k out c) :
    TimesOn B a b n i (k + 1) (out.set k ((c + out.getD k 0) % B)) ((c + out.getD k 0) / B) := by
  have h3 := getD_lt (by omega) h.bel k
  have h0 := h.small
  have hv := h.val
  have h4 : c + out.getD k 0 < B * B := by
    have : 2 * B ≤ B * B := Nat.mul_le_mul_right B hB
    omega
  refine ⟨by simp [h.len], Bel_set h.bel _ _ (Nat.mod_lt _ (by omega)), (Nat.div_lt_iff_lt_mul (by omega)).2 h4, ?_⟩
  have hs := pv_set B out k ((c + out.getD k 0) % B) (by rw [h.len]; exact hk)
  generalize hS : c + out.getD k 0 = S at *
  have e := Nat.mod_add_div S B
  have e2 : B ^ k * (S % B) + B ^ (k + 1) * (S / B) = B ^ k * S := by
    rw [Nat.pow_succ, Nat.mul_assoc, ← Nat.mul_add, e]
  have e3 : B ^ k * S = B ^ k * c + B ^ k * out.getD k 0 := by rw [← hS, Nat.mul_add]
  omega
theorem TimesOn.next {B : Nat} {a b : List Nat} {n i k : Nat} {out : List Nat} (h : TimesOn B a b n i k out 0) : pv B out = pv B (a.take (i + 1)) * pv B b := by
  have := h.val; simpa using this
theorem times_done {B : Nat} (hB : 1 < B) {a b out : List Nat} (hb : Bel B out) (hv : pv B out = pv B (a.take a.length) * pv B b) : ptrim out = pcs B (pv B a * pv B b) := by
  rw [List.take_length] at hv
  refine Good_inj hB (Good_ptrim hb) (Good_pcs (by omega) _) ?_
  rw [pv_ptrim, pv_pcs (by omega), hv]

end Go.Proofs.Kl
/- Plain facts: comparing and dividing pieces. No program. -/
namespace Go.Proofs.Kl

/-- comparing from the last piece on: the first k pieces are still to be looked at. -/
theorem cmp_gt {B : Nat} {a b : List Nat} (hl : a.length = b.length) (hb : Bel B b) {k : Nat} (hk : k < a.length) (he : a.drop (k + 1) = b.drop (k + 1)) (h : b.getD k 0 < a.getD k 0) : pv B b < pv B a := by
  have ea : a = a.take k ++ [a.getD k 0] ++ a.drop (k + 1) := by
    rw [List.append_assoc]; simp [List.getD, hk]
  have eb : b = b.take k ++ [b.getD k 0] ++ b.drop (k + 1) := by
    rw [List.append_assoc]; simp [List.getD, show k < b.length by omega]
  have h1 : pv B (b.take k ++ [b.getD k 0]) < pv B (a.take k ++ [a.getD k 0]) :=
    pv_snoc_lt (by simp; omega) (fun x hx => hb x (List.mem_of_mem_take hx)) h
  rw [ea, eb, pv_append, pv_append B (a.take k ++ _), ← he]
  have : (b.take k ++ [b.getD k 0]).length = (a.take k ++ [a.getD k 0]).length := by simp; omega
  rw [this]; omega

theorem drop_cons {a : List Nat} {k : Nat} (hk : k < a.length) : a.drop k = a.getD k 0 :: a.drop (k + 1) := by
  rw [List.drop_eq_getElem_cons hk]; simp [List.getD, hk]

theorem pv_drop (B : Nat) {a : List Nat} {k : Nat} (hk : k < a.length) : pv B (a.drop k) = a.getD k 0 + B * pv B (a.drop (k + 1)) := by
  rw [drop_cons hk, pv]

/-- one round of the short division: the rest comes down. -/
structure ShortAt (B : Nat) (a : List Nat) (d n : Nat) (k : Nat) (q : List Nat) (r : Nat) : Prop where
  len : q.length = n
  bel : Bel B q
  rest : r < d
  val : pv B (q.drop k) * d + r = pv B (a.drop k)
theorem drop_set_self {q : List Nat} {k v : Nat} (hk : k < q.length) : (q.set k v).drop k = v :: q.drop (k + 1) := by
  rw [drop_cons (by simpa using hk)]
  congr 1
  · simp [List.getD, hk]
  · simp [List.drop_set]
theorem ShortAt.start {B d : Nat} {a : List Nat} (hB : 0 < B) (hd : 0 < d) : ShortAt B a d a.length a.length (List.replicate a.length 0) 0 :=
  ⟨by simp, Bel_replicate B _ hB, hd, by simp [pv]⟩
theorem ShortAt.step {B d n k : Nat} {a q : List Nat} {r : Nat} (hd : d ≤ B) (ha : Bel B a) (hk : k < a.length) (hkn : k < n) (h : ShortAt B a d n (k + 1) q r) :
    ShortAt B a d n k (q.set k ((r * B + a.getD k 0) / d)) ((r * B + a.getD k 0) % d) := by
  have hr := h.rest
  have hx := getD_lt (show 0 < B by omega) ha k
  have hlt : r * B + a.getD k 0 < d * B := by
    have : (r + 1) * B ≤ d * B := Nat.mul_le_mul_right B hr
    rw [Nat.add_mul] at this; omega
  refine ⟨by simp [h.len], Bel_set h.bel _ _ ?_, Nat.mod_lt _ (by omega), ?_⟩
  · exact (Nat.div_lt_iff_lt_mul (by omega)).2 (by rw [Nat.mul_comm B d]; exact hlt)
  · rw [drop_set_self (by rw [h.len]; exact hkn), pv, pv_drop B hk, ← h.val]
    have e := Nat.mod_add_div (r * B + a.getD k 0) d
    generalize (r * B + a.getD k 0) / d = Q at *
    generalize (r * B + a.getD k 0) % d = R at *
    grind
theorem ShortAt.done {B d : Nat} {a q : List Nat} {r n : Nat} (hB : 1 < B) (h : ShortAt B a d n 0 q r) : ptrim q = pcs B (pv B a / d) ∧ r = pv B a % d := by
  have hv := h.val
  have hr := h.rest
  simp only [List.drop_zero] at hv
  have e1 : pv B a / d = pv B q := by
    rw [← hv, Nat.add_comm, Nat.add_mul_div_right _ _ (by omega), Nat.div_eq_of_lt hr]; omega
  have e2 : pv B a % d = r := by
    rw [← hv, Nat.mul_add_mod_self_right]; exact Nat.mod_eq_of_lt hr
  refine ⟨?_, e2.symm⟩
  refine Good_inj hB (Good_ptrim h.bel) (Good_pcs (by omega) _) ?_
  rw [pv_ptrim, pv_pcs (by omega), e1]

theorem ptrim_cons_pcs {B : Nat} (hB : 1 < B) {x r : Nat} (hx : x < B) : ptrim (x :: pcs B r) = pcs B (x + B * r) := by
  have hb : Bel B (x :: pcs B r) := by
    intro y hy
    rcases List.mem_cons.1 hy with rfl | hy
    · exact hx
    · exact (Good_pcs (by omega) r).bel y hy
  refine Good_inj hB (Good_ptrim hb) (Good_pcs (by omega) _) ?_
  rw [pv_ptrim, pv_pcs (by omega), pv, pv_pcs (by omega)]

theorem ptrim_single {B : Nat} (hB : 1 < B) {d : Nat} (hd : d < B) : ptrim [d] = pcs B d := by
  have := ptrim_cons_pcs hB (r := 0) hd
  rw [pcs_zero] at this; simpa using this

theorem pcs_length_le {B n k : Nat} (hB : 1 < B) : (pcs B n).length ≤ k ↔ n < B ^ k := by
  constructor
  · intro h
    have := pv_lt B (pcs B n) (Good_pcs (by omega) n).bel
    rw [pv_pcs (by omega)] at this
    exact Nat.lt_of_lt_of_le this (Nat.pow_le_pow_right (by omega) h)
  · intro h
    rcases snoc_cases (pcs B n) with e | ⟨m, x, e⟩
    · rw [e]; simp
    · have hg := Good_pcs (show 2 ≤ B by omega) n
      have hp := pv_pcs (show 2 ≤ B by omega) n
      rw [e] at hg hp ⊢
      have := pv_ge_of_snoc (B := B) (m := m) (Good_snoc.1 hg).2.2
      rw [hp] at this
      have h2 : B ^ m.length < B ^ k := by omega
      have := (Nat.pow_lt_pow_iff_right hB).1 h2
      simp; omega
theorem lt_pcs_length {B n k : Nat} (hB : 1 < B) : k < (pcs B n).length ↔ B ^ k ≤ n := by
  have := pcs_length_le (n := n) (k := k) hB
  omega
theorem pcs_getD {B : Nat} (hB : 1 < B) (n k : Nat) : (pcs B n).getD k 0 = n / B ^ k % B := by
  induction k generalizing n with
  | zero =>
    by_cases h : n = 0
    · subst h; simp [pcs_zero]
    · rw [pcs_pos (by omega) h]; simp
  | succ k ih =>
    by_cases h : n = 0
    · subst h; simp [pcs_zero]
    · rw [pcs_pos (by omega) h, List.getD_cons_succ, ih, Nat.pow_succ, Nat.mul_comm, Nat.div_div_eq_div_mul]

/-- the digit that is tried is not too small. -/
theorem digit_ge {B b r L : Nat} (hB : 1 < B) (hb : 0 < b) (hbl : (pcs B b).length = L + 1) (hr : r < b * B) :
    r / b ≤ min (r / B ^ L / ((pcs B b).getD L 0)) (B - 1) := by
  have h1 : B ^ L ≤ b := (lt_pcs_length hB).1 (by omega)
  have h2 : b < B ^ (L + 1) := (pcs_length_le hB).1 (by omega)
  have ht : (pcs B b).getD L 0 = b / B ^ L := by
    rw [pcs_getD hB, Nat.mod_eq_of_lt]
    rw [Nat.div_lt_iff_lt_mul (Nat.pow_pos (by omega))]
    rw [Nat.pow_succ] at h2; rw [Nat.mul_comm]; exact h2
  rw [ht]
  have hp : 0 < B ^ L := Nat.pow_pos (by omega)
  have htp : 0 < b / B ^ L := Nat.div_pos h1 hp
  apply Nat.le_min.2
  constructor
  · rw [Nat.div_div_eq_div_mul]
    apply Nat.div_le_div_left
    · exact Nat.mul_div_le b (B ^ L)
    · exact Nat.mul_pos hp htp
  · have : r / b < B := (Nat.div_lt_iff_lt_mul hb).2 (by rw [Nat.mul_comm]; exact hr)
    omega

/-- the long division: the quotient's pieces from k on. -/
structure LongAt (B : Nat) (a : List Nat) (b n : Nat) (k : Nat) (q : List Nat) (r : Nat) : Prop where
  len : q.length = n
  bel : Bel B q
  low : ∀ j, j < k → q.getD j 0 = 0
  rest : r < b
  val : pv B (q.drop k) * b + r = pv B (a.drop k)
theorem LongAt.start {B b : Nat} {a : List Nat} (hB : 0 < B) (hb : 0 < b) : LongAt B a b a.length a.length (List.replicate a.length 0) 0 :=
  ⟨by simp, Bel_replicate B _ hB, fun j hj => by simp [List.getD, hj], hb, by simp [pv]⟩
theorem LongAt.lt {B b n k : Nat} {a q : List Nat} {r : Nat} (ha : Bel B a) (hB : 0 < B) (h : LongAt B a b n (k + 1) q r) : a.getD k 0 + B * r < b * B := by
  have hx := getD_lt hB ha k
  have : B * (r + 1) ≤ B * b := Nat.mul_le_mul_left B h.rest
  rw [Nat.mul_add] at this; rw [Nat.mul_comm b B]; omega
theorem LongAt.skip {B b n k : Nat} {a q : List Nat} {r : Nat} (hk : k < a.length) (hkn : k < n) (h : LongAt B a b n (k + 1) q r) (hlt : a.getD k 0 + B * r < b) : LongAt B a b n k q (a.getD k 0 + B * r) := by
  refine ⟨h.len, h.bel, fun j hj => h.low j (by omega), hlt, ?_⟩
  rw [pv_drop B (by rw [h.len]; exact hkn), h.low k (by omega), pv_drop B hk, ← h.val]
  grind
theorem LongAt.step {B b n k d : Nat} {a q : List Nat} {r : Nat} (hB : 0 < B) (ha : Bel B a) (hk : k < a.length) (hkn : k < n) (h : LongAt B a b n (k + 1) q r)
    (hd1 : d * b ≤ a.getD k 0 + B * r) (hd2 : a.getD k 0 + B * r < (d + 1) * b) : LongAt B a b n k (q.set k d) (a.getD k 0 + B * r - d * b) := by
  have hlt := h.lt ha hB
  have hb : 0 < b := by have := h.rest; omega
  have hdB : d < B := by
    have : d * b < B * b := by rw [Nat.mul_comm B b]; omega
    exact Nat.lt_of_mul_lt_mul_right this
  refine ⟨by simp [h.len], Bel_set h.bel _ _ hdB, fun j hj => ?_, ?_, ?_⟩
  · have := h.low j (by omega)
    simp only [List.getD, List.getElem?_set] at *; rw [if_neg (by omega)]; exact this
  · rw [Nat.add_mul] at hd2; omega
  · rw [drop_set_self (by rw [h.len]; exact hkn), pv, pv_drop B hk, ← h.val]
    obtain ⟨t, ht⟩ : ∃ t, a.getD k 0 + B * r = d * b + t := ⟨a.getD k 0 + B * r - d * b, by omega⟩
    have e : a.getD k 0 + B * (pv B (q.drop (k + 1)) * b + r) = B * (pv B (q.drop (k + 1)) * b) + (a.getD k 0 + B * r) := by rw [Nat.mul_add]; omega
    rw [e, ht, show d * b + t - d * b = t by omega]; grind
theorem LongAt.done {B b n : Nat} {a q : List Nat} {r : Nat} (hB : 1 < B) (h : LongAt B a b n 0 q r) : ptrim q = pcs B (pv B a / b) ∧ r = pv B a % b :=
  ShortAt.done hB (d := b) (n := n) ⟨h.len, h.bel, h.rest, h.val⟩

/-- the scaled division gives the quotient, and the scaled rest. -/
theorem scaled_div {a b f : Nat} (hf : 0 < f) : a * f / (b * f) = a / b := Nat.mul_div_mul_right a b hf
theorem scaled_mod {a b f : Nat} (hf : 0 < f) : a * f % (b * f) / f = a % b := by
  rw [Nat.mul_mod_mul_right, Nat.mul_div_cancel _ hf]

end Go.Proofs.Kl
/- Plain facts: decimal texts and pieces of k digits; the order of texts; parsing short texts. No program. -/
namespace Go.Proofs.Kl
open Go.Lib

theorem dv_zeros (n : Nat) : dv (List.replicate n 48) = 0 := by
  induction n with
  | zero => rfl
  | succ n ih => rw [List.replicate_succ, dv_cons, ih]; simp

theorem isDec_of_head {l : List UInt8} {c : UInt8} {r : List UInt8} (e : l = c :: r) (hc : c ≠ 48) (h : ∀ d ∈ l, isD d = true) : isDec l = true := by
  unfold isDec
  simp only [Bool.and_eq_true, List.all_eq_true, Bool.not_eq_true', List.isEmpty_eq_false_iff, Bool.or_eq_true, bne_iff_ne, beq_iff_eq]
  exact ⟨⟨h, by simp [e]⟩, Or.inl (by simpa [e] using hc)⟩

/-- a number with k more places: the places are filled with zeros. -/
theorem decDigits_cat {r x k : Nat} (hr : 0 < r) (hx : x < 10 ^ k) (hk : 0 < k) :
    decDigits (x + 10 ^ k * r) = decDigits r ++ (List.replicate (k - (decDigits x).length) 48 ++ decDigits x) := by
  have hlen : (decDigits x).length ≤ k := by rw [decDigits_length]; exact (nDigits_le hk).2 hx
  obtain ⟨c, t, e, hc⟩ := decDigits_head r hr
  have hdec : isDec (decDigits r ++ (List.replicate (k - (decDigits x).length) 48 ++ decDigits x)) = true := by
    refine isDec_of_head (c := c) (r := t ++ (List.replicate (k - (decDigits x).length) 48 ++ decDigits x)) (by rw [e]; rfl) hc ?_
    intro d hd
    rcases List.mem_append.1 hd with hd | hd
    · exact decDigits_isD r d hd
    · rcases List.mem_append.1 hd with hd | hd
      · rw [List.eq_of_mem_replicate hd]; rfl
      · exact decDigits_isD x d hd
  have := decDigits_dv _ _ rfl hdec
  rw [← this]
  congr 1
  rw [dv_append, dv_append, dv_zeros, dv_decDigits, dv_decDigits, List.length_append, List.length_replicate]
  rw [show k - (decDigits x).length + (decDigits x).length = k by omega]; grind

/-! what stands when a text is taken apart, from its end. -/
structure OpenAt (k : Nat) (s : List UInt8) (p : List Nat) (m : Nat) : Prop where
  le : m ≤ s.length
  bel : Bel (10 ^ k) p
  val : pv (10 ^ k) p + (10 ^ k) ^ p.length * dv (s.take m) = dv s
theorem OpenAt.start (k : Nat) (s : List UInt8) : OpenAt k s [] s.length := ⟨Nat.le_refl _, fun x h => by simp at h, by simp [pv]⟩
theorem OpenAt.step {k : Nat} {s : List UInt8} {p : List Nat} {m : Nat} (hs : ∀ c ∈ s, isD c = true) (h : OpenAt k s p m) :
    OpenAt k s (p ++ [dv ((s.take m).drop (m - k))]) (m - k) := by
  have hle := h.le
  have e : s.take m = s.take (m - k) ++ (s.take m).drop (m - k) := by
    have := (List.take_append_drop (m - k) (s.take m)).symm
    rwa [List.take_take, Nat.min_eq_left (by omega)] at this
  have hlen : ((s.take m).drop (m - k)).length = m - (m - k) := by simp; omega
  have hd : dv ((s.take m).drop (m - k)) < 10 ^ ((s.take m).drop (m - k)).length := dv_lt _ (fun c hc => hs c (List.mem_of_mem_take (List.mem_of_mem_drop hc)))
  have hd2 : dv ((s.take m).drop (m - k)) < 10 ^ k := Nat.lt_of_lt_of_le hd (Nat.pow_le_pow_right (by decide) (by rw [hlen]; omega))
  refine ⟨by omega, Bel_snoc.2 ⟨h.bel, hd2⟩, ?_⟩
  have hv := h.val
  rw [e, dv_append, hlen] at hv
  rw [pv_snoc, List.length_append, List.length_singleton, Nat.pow_succ]
  by_cases hm : k ≤ m
  · rw [show m - (m - k) = k by omega] at hv
    generalize dv ((s.take m).drop (m - k)) = x at *
    generalize dv (s.take (m - k)) = y at *
    rw [Nat.mul_add] at hv
    have : (10 ^ k) ^ p.length * 10 ^ k * y = (10 ^ k) ^ p.length * (y * 10 ^ k) := by grind
    omega
  · have : s.take (m - k) = [] := by rw [show m - k = 0 by omega]; rfl
    rw [this] at hv ⊢
    simp only [dv_nil, Nat.zero_mul, Nat.zero_add, Nat.mul_zero, Nat.add_zero] at hv ⊢
    exact hv
theorem OpenAt.done {k : Nat} {s : List UInt8} {p : List Nat} (hk : 0 < k) (h : OpenAt k s p 0) : ptrim p = pcs (10 ^ k) (dv s) := by
  have hv := h.val
  simp [dv_nil] at hv
  have hB : 1 < 10 ^ k := Nat.one_lt_pow (by omega) (by decide)
  refine Good_inj hB (Good_ptrim h.bel) (Good_pcs (by omega) _) ?_
  rw [pv_ptrim, pv_pcs (by omega), hv]

/-- what is written when the pieces from m on have been written. -/
theorem close_step {k : Nat} (hk : 0 < k) {p : List Nat} (hp : Good (10 ^ k) p) {m : Nat} (hm : m + 1 < p.length) :
    decDigits (pv (10 ^ k) (p.drop m)) = decDigits (pv (10 ^ k) (p.drop (m + 1))) ++ (List.replicate (k - (decDigits (p.getD m 0)).length) 48 ++ decDigits (p.getD m 0)) := by
  have hB : 1 < 10 ^ k := Nat.one_lt_pow (by omega) (by decide)
  rw [pv_drop _ (by omega), decDigits_cat ?_ (getD_lt (by omega) hp.bel m) hk]
  have hg : Good (10 ^ k) (p.drop (m + 1)) := by
    refine ⟨fun x hx => hp.bel x (List.mem_of_mem_drop hx), ?_⟩
    have := hp.tr
    unfold Tr at *
    rw [List.getLast?_drop, if_neg (by omega)]; exact this
  apply Nat.pos_of_ne_zero
  intro e
  have := (Good_pos hg (by omega)).1 e
  have h2 := congrArg List.length this
  simp at h2; omega
theorem close_top {B : Nat} {p : List Nat} (m : Nat) (hm : m + 1 = p.length) : pv B (p.drop m) = p.getD m 0 := by
  rw [pv_drop B (by omega), hm, List.drop_length, pv]; omega

/-! parsing digits. -/
theorem parseUintM_dv (M : Nat) (l : List UInt8) (h : ∀ c ∈ l, isD c = true) : ∀ acc, acc * 10 ^ l.length + dv l ≤ M → M ≤ 18446744073709551615 → parseUintM M acc l = .ok (acc * 10 ^ l.length + dv l) := by
  induction l with
  | nil => intro acc _ _; simp [parseUintM, dv]
  | cons c r ih =>
    intro acc hM hM2
    have hc := h c (List.mem_cons_self ..)
    simp only [isD, Bool.and_eq_true, decide_eq_true_eq] at hc
    rw [dv_cons, List.length_cons, Nat.pow_succ] at hM ⊢
    have e : acc * (10 ^ r.length * 10) + ((c.toNat - 48) * 10 ^ r.length + dv r) = (acc * 10 + (c.toNat - 48)) * 10 ^ r.length + dv r := by grind
    rw [e] at hM ⊢
    have hp : 1 ≤ 10 ^ r.length := Nat.one_le_pow _ _ (by decide)
    have hle : acc * 10 + (c.toNat - 48) ≤ (acc * 10 + (c.toNat - 48)) * 10 ^ r.length := Nat.le_mul_of_pos_right _ hp
    rw [parseUintM, if_pos hc, if_neg (by omega), if_neg (by omega)]
    exact ih (fun d hd => h d (List.mem_cons_of_mem _ hd)) _ hM hM2
theorem parseUintB_dv {B : Nat} (hB : B ≤ 64) (l : List UInt8) (h : ∀ c ∈ l, isD c = true) (hl : l ≠ []) (hv : dv l < 2 ^ B) : parseUintB B l = .ok (dv l) := by
  have : 2 ^ B ≤ 2 ^ 64 := Nat.pow_le_pow_right (by decide) hB
  rw [parseUintB, if_neg hl, parseUintM_dv _ l h 0 (by omega) (by omega)]
  simp
theorem parseUint10_eq (l : List UInt8) : ∀ acc, acc < 18446744073709551616 → parseUint10 acc l = parseUintM 18446744073709551615 acc l := by
  induction l with
  | nil => intro acc _; rfl
  | cons c r ih =>
    intro acc ha
    rw [parseUint10, parseUintM]
    by_cases hc : 48 ≤ c.toNat ∧ c.toNat ≤ 57
    · rw [if_pos hc, if_pos hc]
      by_cases h1 : 1844674407370955162 ≤ acc
      · rw [if_pos h1, if_pos h1]
      · rw [if_neg h1, if_neg h1]
        by_cases h2 : 18446744073709551616 ≤ acc * 10 + (c.toNat - 48)
        · rw [if_pos h2, if_pos (by omega)]
        · rw [if_neg h2, if_neg (by omega)]
          exact ih _ (by omega)
    · rw [if_neg hc, if_neg hc]
theorem head_digit {c : UInt8} (h : isD c = true) : ¬ (c.toNat = 43 ∨ c.toNat = 45) ∧ ¬ c.toNat = 45 := by
  simp [isD] at h; omega
/-- Atoi of the text of an int. -/
theorem atoiAll_itoa (n : Int) (h1 : -9223372036854775808 ≤ n) (h2 : n ≤ 9223372036854775807) : atoiAll (itoa n) = .ok n := by
  have pm : ∀ u : Nat, u < 18446744073709551616 → parseMag (decDigits u) = .ok u := by
    intro u hu
    rw [parseMag, if_neg (decDigits_ne_nil u), parseUint10_eq _ 0 (by omega), parseUintM_dv _ _ (decDigits_isD u) 0 (by rw [dv_decDigits]; omega) (by omega), dv_decDigits]; simp
  by_cases hn : n < 0
  · rw [itoa_neg hn]
    simp only [atoiAll]
    rw [if_pos (by right; rfl), pm _ (by omega)]
    simp only [show (45 : UInt8).toNat = 45 from rfl, not_true_eq_false, false_and, if_false, true_and, if_true]
    rw [if_neg (by omega)]
    congr 1; omega
  · rw [itoa_nonneg (by omega)]
    obtain ⟨c, r, e, hc⟩ := decDigits_cons_digit n.toNat
    have hh := head_digit hc
    rw [e]
    simp only [atoiAll]
    rw [if_neg hh.1, ← e, pm _ (by omega)]
    simp only [hh.2, not_false_eq_true, true_and, false_and, if_false]
    rw [if_neg (by omega)]
    congr 1; omega
/-- ParseInt at 64 bits of the text of an int. -/
theorem parseIntB_itoa (n : Int) (h1 : -9223372036854775808 ≤ n) (h2 : n ≤ 9223372036854775807) : parseIntB 64 (itoa n) = .ok n := by
  have pm : ∀ u : Nat, u < 18446744073709551616 → parseUintB 64 (decDigits u) = .ok u := by
    intro u hu
    rw [parseUintB_dv (by omega) _ (decDigits_isD u) (decDigits_ne_nil u) (by rw [dv_decDigits]; omega), dv_decDigits]
  by_cases hn : n < 0
  · rw [itoa_neg hn]
    simp only [parseIntB]
    rw [if_pos (by right; rfl), pm _ (by omega)]
    simp only [show (45 : UInt8).toNat = 45 from rfl, not_true_eq_false, false_and, if_false, true_and, if_true]
    rw [if_neg (by omega)]
    congr 1; omega
  · rw [itoa_nonneg (by omega)]
    obtain ⟨c, r, e, hc⟩ := decDigits_cons_digit n.toNat
    have hh := head_digit hc
    rw [e]
    simp only [parseIntB]
    rw [if_neg hh.1, ← e, pm _ (by omega)]
    simp only [hh.2, not_false_eq_true, true_and, false_and, if_false]
    rw [if_neg (by omega)]
    congr 1; omega
end Go.Proofs.Kl
/- What slices of whole numbers hold, and what stays when new memory is made. -/
namespace Go.Proofs.Kl
open Go.RowKit

theorem bcell {W w1 : World} (hb : Below W.heap.size W w1) : (∀ b o, b < W.heap.size → w1.cell? ⟨b, o, none⟩ = W.cell? ⟨b, o, none⟩) ∧ (∀ b o, b < W.heap.size → w1.frozen? ⟨b, o, none⟩ = W.frozen? ⟨b, o, none⟩) :=
  ⟨fun b o h => hb.cell (p := ⟨b, o, none⟩) h, fun b o h => hb.frozen (p := ⟨b, o, none⟩) h⟩
theorem below_trans {w w1 w2 : World} (h : Below w.heap.size w w1) (k : Below w1.heap.size w1 w2) : Below w.heap.size w w2 :=
  h.trans ⟨k.os, k.tape, k.output, k.size, fun i hi => k.block i (Nat.lt_of_lt_of_le hi h.size)⟩
theorem below_drewN {B : Nat} {w W : World} (h : Below B w W) (n : Nat) : Below B w (W.drewN n) := ⟨h.os, h.tape, h.output, h.size, h.block⟩
theorem cell_below {w w1 : World} (h : Below w.heap.size w w1) {a : Addr} {v : Value} (hc : w.cell? a = some v) : w1.cell? a = some v := (h.cell (World.block_lt_of_cell? w a hc)).trans hc

/-- what a slice's cells hold: whole numbers. -/
def Cs (k : IntKind) (w : World) (b off : Nat) (zs : List Nat) : Prop := ∀ j, j < zs.length → w.cell? ⟨b, off + j, none⟩ = some (.int k (zs.getD j 0 : Nat))
theorem Cs.below {k : IntKind} {w w1 : World} (h : Below w.heap.size w w1) {b off : Nat} {zs : List Nat} (hc : Cs k w b off zs) : Cs k w1 b off zs := fun j hj => cell_below h (hc j hj)

/-- a slice's value holds whole numbers. -/
def Sl (k : IntKind) (w : World) (v : Value) (zs : List Nat) : Prop :=
  ∃ A c, v = .slice A zs.length c ∧ (zs.length ≤ c ∧ (A = none → c = 0)) ∧ zs.length ≤ 1000000000000 ∧ (zs ≠ [] → ∃ b off, A = some ⟨b, off, none⟩ ∧ Cs k w b off zs)
theorem Sl.below {k : IntKind} {w w1 : World} {v : Value} {zs : List Nat} (hs : Sl k w v zs) (h : Below w.heap.size w w1) : Sl k w1 v zs := by
  obtain ⟨A, c, e, h1, h2, h3⟩ := hs
  refine ⟨A, c, e, h1, h2, fun hz => ?_⟩
  obtain ⟨b, off, e2, h4⟩ := h3 hz
  exact ⟨b, off, e2, h4.below h⟩
theorem Sl_nil (k : IntKind) (w : World) : Sl k w (.slice none 0 0) [] := ⟨none, 0, rfl, ⟨Nat.le_refl _, fun _ => rfl⟩, by simp, fun h => absurd rfl h⟩

/-- a call hands back a slice, and leaves what was there. -/
def RetSl (k : IntKind) (zs : List Nat) (w : World) (e : Ending) (w' : World) : Prop := ∃ v, e = .returned v ∧ Sl k w' v zs ∧ Below w.heap.size w w'

theorem ptrim_take_zero {zs : List Nat} {k : Nat} (h : zs.getD k 0 = 0) : ptrim (zs.take (k + 1)) = ptrim (zs.take k) := by
  by_cases hk : k < zs.length
  · rw [List.take_succ_eq_append_getElem hk]
    have : zs[k] = 0 := by simpa [List.getD, hk] using h
    rw [this, ptrim_snoc_zero]
  · rw [List.take_of_length_le (by omega), List.take_of_length_le (by omega)]
theorem ptrim_take_other {zs : List Nat} {k : Nat} (hk : k < zs.length) (h : zs.getD k 0 ≠ 0) : ptrim (zs.take (k + 1)) = zs.take (k + 1) := by
  rw [List.take_succ_eq_append_getElem hk]
  exact ptrim_snoc _ _ (by simpa [List.getD, hk] using h)
theorem ptrim_getD (zs : List Nat) (j : Nat) (h : j < (ptrim zs).length) : (ptrim zs).getD j 0 = zs.getD j 0 := by
  obtain ⟨k, e⟩ := ptrim_prefix zs
  generalize ptrim zs = t at *
  rw [e]; simp [List.getD, h, List.getElem?_append]

theorem Sl_trim {k : IntKind} {w : World} {A : Option Addr} {c : Nat} {zs : List Nat} (hs : Sl k w (.slice A zs.length c) zs) : Sl k w (.slice A (ptrim zs).length c) (ptrim zs) := by
  obtain ⟨A', c', e, h1, h2, h3⟩ := hs
  injection e with e1 e2 e3
  subst e1 e3
  have hl := ptrim_length zs
  refine ⟨A, c, rfl, ⟨by omega, h1.2⟩, by omega, fun hz => ?_⟩
  obtain ⟨b, off, e2, h4⟩ := h3 (by intro e; apply hz; rw [e]; rfl)
  exact ⟨b, off, e2, fun j hj => by rw [ptrim_getD zs j hj]; exact h4 j (by omega)⟩

theorem ret_slice {a : Option Addr} {n m c : Nat} (h : n = m) : Ending.returned (.slice a n c) = .returned (.slice a m c) := by rw [h]
theorem ret_int {k : IntKind} {a b : Int} (h : a = b) : Ending.returned (.int k a) = .returned (.int k b) := by rw [h]

/-! a row of the call's own. -/
def nu (k : IntKind) (zs : List Nat) : List Value := zs.map fun (x : Nat) => .int k (x : Int)
theorem nu_length (k : IntKind) (zs : List Nat) : (nu k zs).length = zs.length := by simp [nu]
theorem nu_append (k : IntKind) (xs ys : List Nat) : nu k (xs ++ ys) = nu k xs ++ nu k ys := by simp [nu]
theorem nu_get (k : IntKind) (zs : List Nat) (j : Nat) (h : j < zs.length) : (nu k zs)[j]? = some (.int k (zs.getD j 0 : Nat)) := by
  simp [nu, List.getD, h]
theorem addr_add (g j : Nat) : (⟨g, 0, none⟩ : Addr).add j = ⟨g, j, none⟩ := by unfold Addr.add; split <;> simp_all
theorem Sl_own {k : IntKind} {w : World} {base : Nat} {e : TypeId} {v : Value} {zs : List Nat} (h : w.ownsRow base e 1 v zs.length (nu k zs)) (hcap : zs.length ≤ 1000000000000) : Sl k w v zs := by
  rcases h.2 with ⟨hv, h0⟩ | ⟨g, cap, cur, hv, hb, hg, hn, hm, hs, hx⟩
  · have : zs = [] := List.eq_nil_of_length_eq_zero h0
    subst this; subst hv; exact Sl_nil k w
  · refine ⟨_, cap, hv, ⟨hn, fun h => by cases h⟩, hcap, fun hz => ⟨g, 0, rfl, fun j hj => ?_⟩⟩
    have := h.cells (g := g) (by rw [hv]; rfl) j _ (nu_get k zs j hj)
    rw [addr_add] at this
    rw [Nat.zero_add]; exact this
theorem Sl_own' {k : IntKind} {w : World} {base : Nat} {e : TypeId} {A : Option Addr} {n c : Nat} {zs : List Nat} (hn : n = zs.length) (h : w.ownsRow base e 1 (.slice A n c) n (nu k zs)) (hcap : n ≤ 1000000000000) : Sl k w (.slice A n c) zs := by
  subst hn
  exact Sl_own h hcap
end Go.Proofs.Kl
namespace Go.Proofs.Kl
open Go.RowKit
theorem infoU64 : (Tryz.prog.info? 165).map (fun i => (i.zero, i.size, i.bytes)) = some (some (.int .u64 0), 1, 8) := by kernel_rfl
theorem info3 : (Tryz.prog.info? 3).map (fun i => (i.zero, i.size, i.bytes)) = some (some (.int .i64 0), 1, 8) := by kernel_rfl

/-- an append of one number within the capacity. -/
theorem app_fits {P : Program} {ops : Array Oper} {rest : List Oper} {o : Oper} {a : Act} {Q : Exit → Act → World → Prop} (W : World) (hg : o.guard = none) (s x : Operand) (t e : TypeId) (kd : IntKind) (bytes : Nat)
    (hop : o.op = Op.call { callee := Callee.builtin Builtin.append, args := #[s, x], argTypes := #[t, t] }) (h1 : P.underlying t = some (.slice e)) (hinfo : (P.info? e).map (fun i => (i.zero, i.size, i.bytes)) = some (some (.int kd 0), 1, bytes))
    (base g cap k : Nat) (zs : List Nat) (hk : k = zs.length) (hs : a.eval s = .slice (some ⟨g, 0, none⟩) k cap) (hx : a.eval x = .slice (some ⟨W.heap.size, 0, none⟩) 1 1) (hown : W.ownsRow base e 1 (.slice (some ⟨g, 0, none⟩) k cap) k (nu kd zs))
    (y : Nat) (Y : Int) (hY : Y = (y : Int)) (hroom : k + 1 ≤ cap)
    (h : ∀ w1, w1.ownsRow base e 1 (.slice (some ⟨g, 0, none⟩) (k + 1) cap) (k + 1) (nu kd (zs ++ [y])) → W.grownBy w1 (some g) → wpList P ops Q rest (a.put o.dst (.slice (some ⟨g, 0, none⟩) (k + 1) cap)) w1) :
    wpList P ops Q (o :: rest) a (W.alloc (.cells #[.int kd Y] e)) := by
  subst hk
  obtain ⟨i0, hi, hz0, hz1, hz2⟩ := info_parts hinfo
  refine wpList_append_fits (W.alloc (.cells #[.int kd Y] e)) hg s x t hop base e i0 1 h1 hi hz1 g zs.length cap (nu kd zs) hs (hown.alloc _) ⟨W.heap.size, 0, none⟩ 1 1 [.int kd Y] hx rfl ?_ (by intro u hu; simp at hu; subst hu; rfl) hroom ?_
  · exact World.news_of_block (cs := #[.int kd Y]) (t := e) (fr := (0, 0)) (heap_alloc_new W _)
  · intro w1 ho hgr
    refine h w1 ?_ (World.grownBy.trans (World.grownBy_alloc W _ _) hgr)
    rw [nu_append]; subst hY; simpa [nu] using ho
end Go.Proofs.Kl
namespace Go.Proofs.Kl
open Go.RowKit
theorem nu_set (k : IntKind) (zs : List Nat) (j v : Nat) : (nu k zs).set j (.int k (v : Int)) = nu k (zs.set j v) := by simp [nu, List.map_set]
theorem nu_made (k : IntKind) (n : Nat) : (madeCells #[.int k 0] (n * 1)).toList = nu k (List.replicate n 0) := by
  apply List.ext_getElem
  · simp [madeCells, nu]
  · intro i h1 h2; simp [madeCells, nu, Nat.mod_one]
/-- a row of the call's own that holds whole numbers. -/
structure Rw (k : IntKind) (e : TypeId) (base g N : Nat) (zs : List Nat) (w : World) : Prop where
  len : zs.length = N
  own : w.ownsRow base e 1 (.slice (some ⟨g, 0, none⟩) N N) N (nu k zs)
theorem Rw.cell {k : IntKind} {e : TypeId} {base g N : Nat} {zs : List Nat} {w : World} (h : Rw k e base g N zs w) {j : Nat} (hj : j < N) : w.cell? ⟨g, j, none⟩ = some (.int k (zs.getD j 0 : Nat)) := by
  rw [h.own.cellAt j (by omega), nu_get _ _ _ (by rw [h.len]; exact hj)]
theorem Rw.frozen {k : IntKind} {e : TypeId} {base g N : Nat} {zs : List Nat} {w : World} (h : Rw k e base g N zs w) (j : Nat) : w.frozen? ⟨g, j, none⟩ = false := h.own.frozenAt j
theorem Rw.base_le {k : IntKind} {e : TypeId} {base g N : Nat} {zs : List Nat} {w : World} (h : Rw k e base g N zs w) : base ≤ g := (h.own.lt g rfl).1
theorem Rw.store {k : IntKind} {e : TypeId} {base g N : Nat} {zs : List Nat} {w : World} (h : Rw k e base g N zs w) (j v : Nat) : Rw k e base g N (zs.set j v) (w.setCell ⟨g, j, none⟩ (.int k (v : Int))) :=
  ⟨by simp [h.len], by rw [← nu_set]; exact (h.own.stored j _).1⟩
theorem Rw.store' {k : IntKind} {e : TypeId} {base g N : Nat} {zs : List Nat} {w : World} (h : Rw k e base g N zs w) (j v : Nat) (V : Int) (hV : V = v) : Rw k e base g N (zs.set j v) (w.setCell ⟨g, j, none⟩ (.int k V)) := by
  subst hV; exact h.store j v
theorem Rw.Sl {k : IntKind} {e : TypeId} {base g N : Nat} {zs : List Nat} {w : World} (h : Rw k e base g N zs w) (hN : N ≤ 1000000000000) : Sl k w (.slice (some ⟨g, 0, none⟩) N N) zs := Sl_own' h.len.symm h.own hN
theorem Rw.below {k : IntKind} {e : TypeId} {base g N : Nat} {zs : List Nat} {w w1 : World} (h : Rw k e base g N zs w) (hb : Below w.heap.size w w1) : Rw k e base g N zs w1 :=
  ⟨h.len, h.own.kept (row := none) ⟨hb.os, hb.tape, hb.output, hb.size, fun i hi _ => hb.block i hi⟩ (by simp [Value.ownBlock])⟩
theorem Rw.block {k : IntKind} {e : TypeId} {base g N : Nat} {zs : List Nat} {w : World} (h : Rw k e base g N zs w) : ∃ cur, w.heap[g]? = some (.cells cur e (0, 0)) := by
  rcases h.own.2 with ⟨h', _⟩ | ⟨g', cap', cur, h', _, hg, _⟩
  · simp at h'
  · simp only [Value.slice.injEq, Option.some.injEq, Addr.mk.injEq, and_true, true_and] at h'
    obtain ⟨rfl, rfl⟩ := h'
    exact ⟨cur, hg⟩
theorem Rw.kept {k : IntKind} {e : TypeId} {base g N : Nat} {zs : List Nat} {w w1 : World} (h : Rw k e base g N zs w) {row : Option Nat} (hg : w.grownBy w1 row) (hne : some g ≠ row) : Rw k e base g N zs w1 :=
  ⟨h.len, h.own.kept hg (Or.inr hne)⟩
theorem Rw.lt {k : IntKind} {e : TypeId} {base g N : Nat} {zs : List Nat} {w : World} (h : Rw k e base g N zs w) : g < w.heap.size := (h.own.lt g rfl).2
/-- make([]T, n) of numbers. -/
theorem make_run (t e : TypeId) (k : IntKind) (bytes : Nat) (ht : Tryz.prog.underlying t = some (.slice e)) (hinfo : (Tryz.prog.info? e).map (fun i => (i.zero, i.size, i.bytes)) = some (some (.int k 0), 1, bytes))
    (m : Nat) (hn : bytes * m ≤ 281474976710656) (hm : m ≤ 1000000000000) :
    ∀ W : World, (Instr.makeSlice t (.int .i64 (m : Int)) (.int .i64 (m : Int))).run Tryz.prog W = .ok (.slice (some ⟨W.heap.size, 0, none⟩) m m) (W.alloc (.cells (nu k (List.replicate m 0)).toArray e)) := by
  intro W
  obtain ⟨i, hi, h0, h1, h2⟩ := info_parts hinfo
  have := run_make (P := Tryz.prog) W t e i (.int k 0) ht hi h0 .i64 .i64 m m (by omega) (Int.le_refl _) (by rw [h2]; omega) (by omega)
  have hc : madeCells (Value.int k 0).cells (m * 1) = (nu k (List.replicate m 0)).toArray := by
    rw [← nu_made]; rfl
  rw [this, h1, Int.toNat_natCast, hc]
theorem Rw_made (k : IntKind) (e : TypeId) (W : World) (base m : Nat) (hb : base ≤ W.heap.size) (hm : m ≤ 1000000000000) : Rw k e base W.heap.size m (List.replicate m 0) (W.alloc (.cells (nu k (List.replicate m 0)).toArray e)) :=
  ⟨by simp, by simp [nu], .inr ⟨W.heap.size, m, _, rfl, hb, heap_alloc_new W _, Nat.le_refl _, by unfold maxLen; omega, by simp [nu], by simp [nu]⟩⟩
end Go.Proofs.Kl
namespace Go.Proofs.Kl
open Go.RowKit

set_option maxHeartbeats 400000 in
theorem trim_any (A : Option Addr) (c : Nat) (zs : List Nat) (w : World) (hs : Sl .u64 w (.slice A zs.length c) zs) :
    Calls Tryz.prog 169 #[.slice A zs.length c] w fun e w' => e = .returned (.slice A (ptrim zs).length c) ∧ w = w' := by
  obtain ⟨A', c', e, hz, hcap, hcs⟩ := hs
  injection e with e1 e2 e3
  subst e1 e3
  clear e2
  have HCS := Lib.hid hcs
  clear hcs
  go_enter Tryz.func169, Tryz.ntmps169
  go_wp2
  go_loop [0] (fun v => ∃ m : Nat, m ≤ zs.length ∧ v = .slice A m c ∧ ptrim (zs.take m) = ptrim zs) (fun v => match v with | .slice _ m _ => m | _ => 0)
  case atStart => exact ⟨zs.length, Nat.le_refl _, rfl, by rw [List.take_length]⟩
  case round =>
    obtain ⟨m, hm, rfl, hp⟩ := hrel
    have HP := Lib.hid hp
    clear hp
    cases m with
    | zero =>
      go_wp2
      go_ret
      exact ⟨ret_slice (by rw [← HP.out]; rfl), rfl⟩
    | succ k =>
      obtain ⟨b, off, rfl, hc⟩ := HCS.out (by intro e; simp [e] at hm)
      have hcell : w.cell? ⟨b, off + k, none⟩ = some (.int .u64 (zs.getD k 0 : Nat)) := hc k (by omega)
      by_cases h0 : zs.getD k 0 = 0
      · have H0 := Lib.hid h0
        rw [h0] at hcell
        clear hc h0
        go_wp2
        exact ⟨⟨k, by omega, rfl, by rw [← HP.out, ptrim_take_zero H0.out]⟩, by simp⟩
      · generalize hx : zs.getD k 0 = x at hcell h0
        have HX := Lib.hid hx
        have hx0 : ((x : Int) == 0) = false := beq_eq_false_iff_ne.2 (by omega)
        clear hc hx
        go_wp2
        go_ret
        exact ⟨ret_slice (by rw [← HP.out, ptrim_take_other (by omega) (by rw [HX.out]; exact h0)]; simp; omega), rfl⟩

/-- the comparison of two numbers. -/
def cmpN (x y : Nat) : Int := if x < y then -1 else if y < x then 1 else 0
theorem cmpN_lt {x y : Nat} (h : x < y) : cmpN x y = -1 := by rw [cmpN, if_pos h]
theorem cmpN_gt {x y : Nat} (h : y < x) : cmpN x y = 1 := by rw [cmpN, if_neg (by omega), if_pos h]
theorem cmpN_eq {x y : Nat} (h : x = y) : cmpN x y = 0 := by rw [cmpN, if_neg (by omega), if_neg (by omega)]

def RetInt (r : Int) (w : World) (e : Ending) (w' : World) : Prop := e = .returned (.int .i64 r) ∧ Below w.heap.size w w'

theorem drop_eq_of {a b : List Nat} {k : Nat} (ha : k < a.length) (hb : k < b.length) (h : a.drop (k + 1) = b.drop (k + 1)) (e : a.getD k 0 = b.getD k 0) : a.drop k = b.drop k := by
  rw [drop_cons ha, drop_cons hb, h, e]

set_option maxHeartbeats 400000 in
theorem order_any (a b : List Nat) (va vb : Value) (w : World) (ha : Good 1000000000 a) (hb : Good 1000000000 b) (hva : Sl .u64 w va a) (hvb : Sl .u64 w vb b) :
    Calls Tryz.prog 150 #[va, vb] w (RetInt (cmpN (pv 1000000000 a) (pv 1000000000 b)) w) := by
  obtain ⟨A, ca, rfl, hac, hca, hA⟩ := hva
  obtain ⟨A2, cb, rfl, hbc, hcb, hB⟩ := hvb
  have HA := Lib.hid hA
  have HB := Lib.hid hB
  have Ha := Lib.hid ha
  have Hb := Lib.hid hb
  clear hA hB ha hb
  have hla : a.length ≤ 1000000000000 := by omega
  have hlb : b.length ≤ 1000000000000 := by omega
  rcases Nat.lt_trichotomy a.length b.length with h | h | h
  · have hne : ((a.length : Int) != (b.length : Int)) = true := by rw [bne_iff_ne]; omega
    have H := Lib.hid (Good_len_lt (by decide) Ha.out.bel Hb.out h)
    go_enter Tryz.func150, Tryz.ntmps150
    go_wp2
    go_ret
    exact ⟨ret_int (cmpN_lt H.out).symm, Below.refl _ _⟩
  · have HE := Lib.hid h
    have hne : ((a.length : Int) != (b.length : Int)) = false := by rw [h]; simp
    clear h
    go_enter Tryz.func150, Tryz.ntmps150
    go_wp2
    go_loopw [5] (fun i wr => ∃ m : Nat, m ≤ a.length ∧ i = .int .i64 ((m : Int) - 1) ∧ a.drop m = b.drop m ∧ Below w.heap.size w wr) (fun i _ => (intOf i + 1).toNat)
    case atStart => exact ⟨a.length, Nat.le_refl _, rfl, by rw [List.drop_length, HE.out, List.drop_length], Below.refl _ _⟩
    case round =>
      obtain ⟨m, hm, rfl, hp, hbl⟩ := hrel
      have HP := Lib.hid hp
      clear hp
      cases m with
      | zero =>
        go_wp2
        go_ret
        have : a = b := by simpa using HP.out
        exact ⟨ret_int (cmpN_eq (by rw [this])).symm, hbl⟩
      | succ k =>
        obtain ⟨ba, oa, rfl, hcA⟩ := HA.out (by intro e; simp [e] at hm)
        obtain ⟨bb, ob, rfl, hcB⟩ := HB.out (by intro e; have := HE.out; simp [e] at this; simp [this] at hm)
        have hkb : k < b.length := by have := HE.out; omega
        have hcell : wr.cell? ⟨ba, oa + k, none⟩ = some (.int .u64 (a.getD k 0 : Nat)) := cell_below hbl (hcA k (by omega))
        have hcell2 : wr.cell? ⟨bb, ob + k, none⟩ = some (.int .u64 (b.getD k 0 : Nat)) := cell_below hbl (hcB k hkb)
        clear hcA hcB
        generalize hx : a.getD k 0 = x at hcell
        generalize hy : b.getD k 0 = y at hcell2
        have HX := Lib.hid hx
        have HY := Lib.hid hy
        clear hx hy
        rw [show ((k + 1 : Nat) : Int) - 1 = (k : Int) by omega]
        rcases Nat.lt_trichotomy x y with h | h | h
        · have h1 : ((x : Int) != (y : Int)) = true := by rw [bne_iff_ne]; omega
          go_wp2
          go_quiet (fail)
          go_wp2
          go_quiet (fail)
          go_wp2
          go_ret
          exact ⟨ret_int (cmpN_lt (cmp_gt HE.out.symm Ha.out.bel hkb HP.out.symm (by rw [HX.out, HY.out]; exact h))).symm, below_drewN (below_drewN hbl _) _⟩
        · have h1 : ((x : Int) != (y : Int)) = false := by rw [h]; simp
          have HH := Lib.hid h
          clear h
          go_wp2
          go_quiet (fail)
          go_wp2
          go_roundw
          case rel => exact ⟨k, by omega, by go_num, drop_eq_of (by omega) hkb HP.out (by rw [HX.out, HY.out]; exact HH.out), below_drewN hbl _⟩
          case measure => simp [intOf]
        · have h1 : ((x : Int) != (y : Int)) = true := by rw [bne_iff_ne]; omega
          go_wp2
          go_quiet (fail)
          go_wp2
          go_quiet (fail)
          go_wp2
          go_ret
          exact ⟨ret_int (cmpN_gt (cmp_gt HE.out Hb.out.bel (by omega) HP.out (by rw [HX.out, HY.out]; exact h))).symm, below_drewN (below_drewN hbl _) _⟩
  · have hne : ((a.length : Int) != (b.length : Int)) = true := by rw [bne_iff_ne]; omega
    have H := Lib.hid (Good_len_lt (by decide) Hb.out.bel Ha.out h)
    go_enter Tryz.func150, Tryz.ntmps150
    go_wp2
    go_ret
    exact ⟨ret_int (cmpN_gt H.out).symm, Below.refl _ _⟩
theorem trim_at (A : Option Addr) (n c : Nat) (zs : List Nat) (w : World) (hn : n = zs.length) (hs : Sl .u64 w (.slice A n c) zs) :
    Calls Tryz.prog 169 #[.slice A n c] w fun e w' => (e = .returned (.slice A (ptrim zs).length c) ∧ Sl .u64 w (.slice A (ptrim zs).length c) (ptrim zs)) ∧ w = w' := by
  subst hn
  exact (trim_any A c zs w hs).mono fun e w' h => ⟨⟨h.1, Sl_trim hs⟩, h.2⟩
end Go.Proofs.Kl
namespace Go.Proofs.Kl
open Go.RowKit
set_option maxHeartbeats 1000000 in
theorem plus_any (a b : List Nat) (va vb : Value) (w : World) (ha : Good 1000000000 a) (hb : Good 1000000000 b) (hva : Sl .u64 w va a) (hvb : Sl .u64 w vb b) (hl : a.length < 1000000000 ∧ b.length < 1000000000) :
    Calls Tryz.prog 137 #[va, vb] w (RetSl .u64 (pcs 1000000000 (pv 1000000000 a + pv 1000000000 b)) w) := by
  obtain ⟨i0, hi, hz0, hz1, hz2⟩ := info_parts infoU64
  obtain ⟨A, ca, rfl, hac, hca, hA⟩ := hva
  obtain ⟨A2, cb, rfl, hbc, hcb, hB⟩ := hvb
  have HA := Lib.hid hA
  have HB := Lib.hid hB
  have Ha := Lib.hid ha
  have Hb := Lib.hid hb
  clear hA hB ha hb
  by_cases hlt0 : a.length < b.length
  · have HX := HB
    have HY := HA
    have HGX := Hb
    have HGY := Ha
    clear HA HB Ha Hb
    go_enter Tryz.func137, Tryz.ntmps137

    go_wp2_with (at_make; refine wpList_make_own _ rfl _ _ 157 rfl w.heap.size 165 i0 (.int .u64 0) 1 Tryz.underlying157 hi hz0 hz1 _ _ _ (b.length + 1) rfl rfl (by omega) ?b2 ?b3 (Nat.le_refl _) ?_)
    case b2 => rw [hz2]; omega
    case b3 => unfold maxLen; omega
    intro w0 hown0 hgrow0
    have hbl0 : Below w.heap.size w w0 := (Below.refl _ _).grown hgrow0 (Nat.le_refl _) (fun k h => by cases h)
    clear hgrow0
    go_wp2
    go_loopw [5, 6, 22] (fun out cr sk wr => ∃ (k c : Nat) (zs : List Nat), k ≤ b.length ∧ k = zs.length ∧ sk = .int .i64 k ∧ cr = .int .u64 c ∧ out = .slice (some ⟨w.heap.size, 0, none⟩) k (b.length + 1) ∧
        wr.ownsRow w.heap.size 165 1 (.slice (some ⟨w.heap.size, 0, none⟩) k (b.length + 1)) k (nu .u64 zs) ∧ PlusAt 1000000000 b a k zs c ∧ Below w.heap.size w wr)
      (fun _ _ sk _ => b.length - (intOf sk).toNat)
    case atStart => exact ⟨0, 0, [], Nat.zero_le _, rfl, rfl, rfl, rfl, hown0, PlusAt.zero _ _ _, hbl0⟩
    case round =>
      obtain ⟨k, c, zs, hk, hkz, rfl, rfl, rfl, hown, hp, hbl⟩ := hrel
      have HP := Lib.hid hp
      have HKZ := Lib.hid hkz
      have hc1 := hp.small
      clear hp hkz
      by_cases hlt : k < b.length
      · obtain ⟨bx, ox, rfl, hcx⟩ := HX.out (by intro e; simp [e] at hlt)
        have hcell : wr.cell? ⟨bx, ox + k, none⟩ = some (.int .u64 (b.getD k 0 : Nat)) := cell_below hbl (hcx k (by omega))
        have hxlt : b.getD k 0 < 1000000000 := getD_lt (by omega) HGX.out.bel k
        clear hcx
        by_cases hlt2 : k < a.length
        · obtain ⟨by', oy, rfl, hcy⟩ := HY.out (by intro e; simp [e] at hlt2)
          have hcell2 : wr.cell? ⟨by', oy + k, none⟩ = some (.int .u64 (a.getD k 0 : Nat)) := cell_below hbl (hcy k (by omega))
          have hylt : a.getD k 0 < 1000000000 := getD_lt (by omega) HGY.out.bel k
          clear hcy
          generalize hx : b.getD k 0 = x at hcell hxlt
          generalize hy : a.getD k 0 = y at hcell2 hylt
          have HXK := Lib.hid hx
          have HYK := Lib.hid hy
          clear hx hy
          go_wp2_with (at_builtin; refine app_fits wr rfl _ _ 157 165 .u64 8 rfl Tryz.underlying157 infoU64 w.heap.size w.heap.size (b.length + 1) k zs HKZ.out rfl rfl hown ((c + x + y) % 1000000000) _ (by omega) (by omega) ?_; intro w1 hown1 hgrow1)
          go_roundw
          case rel => exact ⟨k + 1, (c + x + y) / 1000000000, _, by omega, by simp [← HKZ.out], by go_num, by go_num, rfl, hown1, by have := HP.out.step (by decide) HGX.out.bel HGY.out.bel; rwa [HXK.out, HYK.out] at this, hbl.grown hgrow1 hbl.size (fun k hk => by cases hk; exact Nat.le_refl _)⟩
          case measure => simp [intOf]; omega
        · have hy : a.getD k 0 = 0 := by simp [List.getD, List.getElem?_eq_none (show a.length ≤ k by omega)]
          generalize hx : b.getD k 0 = x at hcell hxlt
          have HXK := Lib.hid hx
          have HYK := Lib.hid hy
          clear hx hy
          go_wp2_with (at_builtin; refine app_fits wr rfl _ _ 157 165 .u64 8 rfl Tryz.underlying157 infoU64 w.heap.size w.heap.size (b.length + 1) k zs HKZ.out rfl rfl hown ((c + x) % 1000000000) _ (by omega) (by omega) ?_; intro w1 hown1 hgrow1)
          go_roundw
          case rel => exact ⟨k + 1, (c + x) / 1000000000, _, by omega, by simp [← HKZ.out], by go_num, by go_num, rfl, hown1, by have := HP.out.step (by decide) HGX.out.bel HGY.out.bel; rwa [HXK.out, HYK.out] at this, hbl.grown hgrow1 hbl.size (fun k hk => by cases hk; exact Nat.le_refl _)⟩
          case measure => simp [intOf]; omega
      · obtain rfl : k = b.length := by omega
        clear hlt hk
        have HF := Lib.hid (show ptrim (zs ++ [c]) = pcs 1000000000 (pv 1000000000 a + pv 1000000000 b) from (by rw [Nat.add_comm]; exact HP.out.done (by decide) (by omega)))
        go_wp2_with (at_builtin; refine app_fits wr rfl _ _ 157 165 .u64 8 rfl Tryz.underlying157 infoU64 w.heap.size w.heap.size (b.length + 1) b.length zs HKZ.out rfl rfl hown c _ rfl (by omega) ?_; intro w1 hown1 hgrow1)
        have hbl1 : Below w.heap.size w w1 := hbl.grown hgrow1 hbl.size (fun k hk => by cases hk; exact Nat.le_refl _)
        refine (trim_at _ _ _ (zs ++ [c]) _ (by simp [← HKZ.out]) (Sl_own' (by simp [← HKZ.out]) hown1 (by omega))).mono ?_
        rintro e w' ⟨⟨rfl, hs1⟩, rfl⟩
        go_wp2
        go_ret
        exact ⟨_, rfl, by rw [← HF.out]; exact hs1, hbl1⟩

  · have HX := HA
    have HY := HB
    have HGX := Ha
    have HGY := Hb
    clear HA HB Ha Hb
    go_enter Tryz.func137, Tryz.ntmps137

    go_wp2_with (at_make; refine wpList_make_own _ rfl _ _ 157 rfl w.heap.size 165 i0 (.int .u64 0) 1 Tryz.underlying157 hi hz0 hz1 _ _ _ (a.length + 1) rfl rfl (by omega) ?b2 ?b3 (Nat.le_refl _) ?_)
    case b2 => rw [hz2]; omega
    case b3 => unfold maxLen; omega
    intro w0 hown0 hgrow0
    have hbl0 : Below w.heap.size w w0 := (Below.refl _ _).grown hgrow0 (Nat.le_refl _) (fun k h => by cases h)
    clear hgrow0
    go_wp2
    go_loopw [5, 6, 22] (fun out cr sk wr => ∃ (k c : Nat) (zs : List Nat), k ≤ a.length ∧ k = zs.length ∧ sk = .int .i64 k ∧ cr = .int .u64 c ∧ out = .slice (some ⟨w.heap.size, 0, none⟩) k (a.length + 1) ∧
        wr.ownsRow w.heap.size 165 1 (.slice (some ⟨w.heap.size, 0, none⟩) k (a.length + 1)) k (nu .u64 zs) ∧ PlusAt 1000000000 a b k zs c ∧ Below w.heap.size w wr)
      (fun _ _ sk _ => a.length - (intOf sk).toNat)
    case atStart => exact ⟨0, 0, [], Nat.zero_le _, rfl, rfl, rfl, rfl, hown0, PlusAt.zero _ _ _, hbl0⟩
    case round =>
      obtain ⟨k, c, zs, hk, hkz, rfl, rfl, rfl, hown, hp, hbl⟩ := hrel
      have HP := Lib.hid hp
      have HKZ := Lib.hid hkz
      have hc1 := hp.small
      clear hp hkz
      by_cases hlt : k < a.length
      · obtain ⟨bx, ox, rfl, hcx⟩ := HX.out (by intro e; simp [e] at hlt)
        have hcell : wr.cell? ⟨bx, ox + k, none⟩ = some (.int .u64 (a.getD k 0 : Nat)) := cell_below hbl (hcx k (by omega))
        have hxlt : a.getD k 0 < 1000000000 := getD_lt (by omega) HGX.out.bel k
        clear hcx
        by_cases hlt2 : k < b.length
        · obtain ⟨by', oy, rfl, hcy⟩ := HY.out (by intro e; simp [e] at hlt2)
          have hcell2 : wr.cell? ⟨by', oy + k, none⟩ = some (.int .u64 (b.getD k 0 : Nat)) := cell_below hbl (hcy k (by omega))
          have hylt : b.getD k 0 < 1000000000 := getD_lt (by omega) HGY.out.bel k
          clear hcy
          generalize hx : a.getD k 0 = x at hcell hxlt
          generalize hy : b.getD k 0 = y at hcell2 hylt
          have HXK := Lib.hid hx
          have HYK := Lib.hid hy
          clear hx hy
          go_wp2_with (at_builtin; refine app_fits wr rfl _ _ 157 165 .u64 8 rfl Tryz.underlying157 infoU64 w.heap.size w.heap.size (a.length + 1) k zs HKZ.out rfl rfl hown ((c + x + y) % 1000000000) _ (by omega) (by omega) ?_; intro w1 hown1 hgrow1)
          go_roundw
          case rel => exact ⟨k + 1, (c + x + y) / 1000000000, _, by omega, by simp [← HKZ.out], by go_num, by go_num, rfl, hown1, by have := HP.out.step (by decide) HGX.out.bel HGY.out.bel; rwa [HXK.out, HYK.out] at this, hbl.grown hgrow1 hbl.size (fun k hk => by cases hk; exact Nat.le_refl _)⟩
          case measure => simp [intOf]; omega
        · have hy : b.getD k 0 = 0 := by simp [List.getD, List.getElem?_eq_none (show b.length ≤ k by omega)]
          generalize hx : a.getD k 0 = x at hcell hxlt
          have HXK := Lib.hid hx
          have HYK := Lib.hid hy
          clear hx hy
          go_wp2_with (at_builtin; refine app_fits wr rfl _ _ 157 165 .u64 8 rfl Tryz.underlying157 infoU64 w.heap.size w.heap.size (a.length + 1) k zs HKZ.out rfl rfl hown ((c + x) % 1000000000) _ (by omega) (by omega) ?_; intro w1 hown1 hgrow1)
          go_roundw
          case rel => exact ⟨k + 1, (c + x) / 1000000000, _, by omega, by simp [← HKZ.out], by go_num, by go_num, rfl, hown1, by have := HP.out.step (by decide) HGX.out.bel HGY.out.bel; rwa [HXK.out, HYK.out] at this, hbl.grown hgrow1 hbl.size (fun k hk => by cases hk; exact Nat.le_refl _)⟩
          case measure => simp [intOf]; omega
      · obtain rfl : k = a.length := by omega
        clear hlt hk
        have HF := Lib.hid (show ptrim (zs ++ [c]) = pcs 1000000000 (pv 1000000000 a + pv 1000000000 b) from (HP.out.done (by decide) (by omega)))
        go_wp2_with (at_builtin; refine app_fits wr rfl _ _ 157 165 .u64 8 rfl Tryz.underlying157 infoU64 w.heap.size w.heap.size (a.length + 1) a.length zs HKZ.out rfl rfl hown c _ rfl (by omega) ?_; intro w1 hown1 hgrow1)
        have hbl1 : Below w.heap.size w w1 := hbl.grown hgrow1 hbl.size (fun k hk => by cases hk; exact Nat.le_refl _)
        refine (trim_at _ _ _ (zs ++ [c]) _ (by simp [← HKZ.out]) (Sl_own' (by simp [← HKZ.out]) hown1 (by omega))).mono ?_
        rintro e w' ⟨⟨rfl, hs1⟩, rfl⟩
        go_wp2
        go_ret
        exact ⟨_, rfl, by rw [← HF.out]; exact hs1, hbl1⟩

end Go.Proofs.Kl
namespace Go.Proofs.Kl
open Go.RowKit
/-- a call hands back a slice at the head of the first new block. -/
def RetAt (k : IntKind) (zs : List Nat) (w : World) (e : Ending) (w' : World) : Prop := ∃ n c, e = .returned (.slice (some ⟨w.heap.size, 0, none⟩) n c) ∧ Sl k w' (.slice (some ⟨w.heap.size, 0, none⟩) n c) zs ∧ Below w.heap.size w w'
theorem RetAt.sl {k : IntKind} {zs : List Nat} {w : World} {e : Ending} {w' : World} (h : RetAt k zs w e w') : RetSl k zs w e w' := by
  obtain ⟨n, c, rfl, hs, hb⟩ := h
  exact ⟨_, rfl, hs, hb⟩
theorem Sl.setOther {k : IntKind} {W : World} {b off n c B i : Nat} {zs : List Nat} (hs : Sl k W (.slice (some ⟨b, off, none⟩) n c) zs) (hne : b ≠ B) (u : Value) : Sl k (W.setCell ⟨B, i, none⟩ u) (.slice (some ⟨b, off, none⟩) n c) zs := by
  obtain ⟨A', c', e, h1, h2, h3⟩ := hs
  refine ⟨A', c', e, h1, h2, fun hz => ?_⟩
  obtain ⟨b', off', e2, h4⟩ := h3 hz
  refine ⟨b', off', e2, fun j hj => ?_⟩
  have h5 := h4 j hj
  rw [World.cell?_setCell_other _ _ _ _ ?_]
  · exact h5
  · intro e3
    injection e with e4
    rw [e2] at e4
    injection e4 with e4
    injection e4 with e5
    injection e3 with e6
    omega
set_option maxHeartbeats 1000000 in
set_option maxRecDepth 100000 in
theorem minus_at (a b : List Nat) (va vb : Value) (w : World) (ha : Good 1000000000 a) (hb : Good 1000000000 b) (hva : Sl .u64 w va a) (hvb : Sl .u64 w vb b) (hl : a.length < 1000000000) (hle : pv 1000000000 b ≤ pv 1000000000 a) :
    Calls Tryz.prog 138 #[va, vb] w (RetAt .u64 (pcs 1000000000 (pv 1000000000 a - pv 1000000000 b)) w) := by
  obtain ⟨i0, hi, hz0, hz1, hz2⟩ := info_parts infoU64
  have hll : b.length ≤ a.length := by
    rcases Nat.lt_or_ge a.length b.length with h | h
    · have := Good_len_lt (by decide) ha.bel hb h; omega
    · exact h
  obtain ⟨A, ca, rfl, hac, hca, hA⟩ := hva
  obtain ⟨A2, cb, rfl, hbc, hcb, hB⟩ := hvb
  have HX := Lib.hid hA
  have HY := Lib.hid hB
  have HGX := Lib.hid ha
  have HGY := Lib.hid hb
  have HLE := Lib.hid hle
  clear hA hB ha hb hle
  go_enter Tryz.func138, Tryz.ntmps138
  go_wp2_with (at_make; refine wpList_make_own _ rfl _ _ 157 rfl w.heap.size 165 i0 (.int .u64 0) 1 Tryz.underlying157 hi hz0 hz1 _ _ _ a.length rfl rfl (by omega) ?b2 ?b3 (Nat.le_refl _) ?_)
  case b2 => rw [hz2]; omega
  case b3 => unfold maxLen; omega
  intro w0 hown0 hgrow0
  have hbl0 : Below w.heap.size w w0 := (Below.refl _ _).grown hgrow0 (Nat.le_refl _) (fun k h => by cases h)
  clear hgrow0
  go_wp2
  go_loopw [5, 6, 15] (fun out cr sk wr => ∃ (k c : Nat) (zs : List Nat), k ≤ a.length ∧ k = zs.length ∧ sk = .int .i64 k ∧ cr = .int .u64 c ∧ out = .slice (some ⟨w.heap.size, 0, none⟩) k a.length ∧
      wr.ownsRow w.heap.size 165 1 (.slice (some ⟨w.heap.size, 0, none⟩) k a.length) k (nu .u64 zs) ∧ MinusAt 1000000000 a b k zs c ∧ Below w.heap.size w wr)
    (fun _ _ sk _ => a.length - (intOf sk).toNat)
  case atStart => exact ⟨0, 0, [], Nat.zero_le _, rfl, rfl, rfl, rfl, hown0, MinusAt.zero _ _ _, hbl0⟩
  case round =>
    obtain ⟨k, c, zs, hk, hkz, rfl, rfl, rfl, hown, hp, hbl⟩ := hrel
    have HP := Lib.hid hp
    have HKZ := Lib.hid hkz
    have hc1 := hp.small
    clear hp hkz
    by_cases hlt : k < a.length
    · obtain ⟨bx, ox, rfl, hcx⟩ := HX.out (by intro e; simp [e] at hlt)
      have hcell : wr.cell? ⟨bx, ox + k, none⟩ = some (.int .u64 (a.getD k 0 : Nat)) := cell_below hbl (hcx k (by omega))
      have hxlt : a.getD k 0 < 1000000000 := getD_lt (by omega) HGX.out.bel k
      clear hcx
      by_cases hlt2 : k < b.length
      · obtain ⟨by', oy, rfl, hcy⟩ := HY.out (by intro e; simp [e] at hlt2)
        have hcell2 : wr.cell? ⟨by', oy + k, none⟩ = some (.int .u64 (b.getD k 0 : Nat)) := cell_below hbl (hcy k (by omega))
        have hylt : b.getD k 0 < 1000000000 := getD_lt (by omega) HGY.out.bel k
        clear hcy
        generalize hx : a.getD k 0 = x at hcell hxlt
        generalize hy : b.getD k 0 = y at hcell2 hylt
        have HXK := Lib.hid hx
        have HYK := Lib.hid hy
        clear hx hy
        by_cases hge : c + y ≤ x
        · go_wp2_with (at_builtin; refine app_fits wr rfl _ _ 157 165 .u64 8 rfl Tryz.underlying157 infoU64 w.heap.size w.heap.size a.length k zs HKZ.out rfl rfl hown (x - (c + y)) _ (by omega) (by omega) ?_; intro w1 hown1 hgrow1)
          go_roundw
          case rel => exact ⟨k + 1, 0, _, by omega, by simp [← HKZ.out], by go_num, rfl, rfl, hown1, by have := HP.out.step_ge (by decide) HGX.out.bel (by rw [HXK.out, HYK.out]; exact hge); rwa [HXK.out, HYK.out] at this, hbl.grown hgrow1 hbl.size (fun k hk => by cases hk; exact Nat.le_refl _)⟩
          case measure => simp [intOf]; omega
        · go_wp2_with (at_builtin; refine app_fits wr rfl _ _ 157 165 .u64 8 rfl Tryz.underlying157 infoU64 w.heap.size w.heap.size a.length k zs HKZ.out rfl rfl hown (x + 1000000000 - (c + y)) _ (by omega) (by omega) ?_; intro w1 hown1 hgrow1)
          go_roundw
          case rel => exact ⟨k + 1, 1, _, by omega, by simp [← HKZ.out], by go_num, rfl, rfl, hown1, by have := HP.out.step_lt (by decide) HGY.out.bel (by rw [HXK.out, HYK.out]; omega); rwa [HXK.out, HYK.out] at this, hbl.grown hgrow1 hbl.size (fun k hk => by cases hk; exact Nat.le_refl _)⟩
          case measure => simp [intOf]; omega
      · have hy : b.getD k 0 = 0 := by simp [List.getD, List.getElem?_eq_none (show b.length ≤ k by omega)]
        generalize hx : a.getD k 0 = x at hcell hxlt
        have HXK := Lib.hid hx
        have HYK := Lib.hid hy
        clear hx hy
        by_cases hge : c ≤ x
        · go_wp2_with (at_builtin; refine app_fits wr rfl _ _ 157 165 .u64 8 rfl Tryz.underlying157 infoU64 w.heap.size w.heap.size a.length k zs HKZ.out rfl rfl hown (x - c) _ (by omega) (by omega) ?_; intro w1 hown1 hgrow1)
          go_roundw
          case rel => exact ⟨k + 1, 0, _, by omega, by simp [← HKZ.out], by go_num, rfl, rfl, hown1, by have := HP.out.step_ge (by decide) HGX.out.bel (by rw [HXK.out, HYK.out]; exact hge); rwa [HXK.out, HYK.out] at this, hbl.grown hgrow1 hbl.size (fun k hk => by cases hk; exact Nat.le_refl _)⟩
          case measure => simp [intOf]; omega
        · go_wp2_with (at_builtin; refine app_fits wr rfl _ _ 157 165 .u64 8 rfl Tryz.underlying157 infoU64 w.heap.size w.heap.size a.length k zs HKZ.out rfl rfl hown (x + 1000000000 - c) _ (by omega) (by omega) ?_; intro w1 hown1 hgrow1)
          go_roundw
          case rel => exact ⟨k + 1, 1, _, by omega, by simp [← HKZ.out], by go_num, rfl, rfl, hown1, by have := HP.out.step_lt (by decide) HGY.out.bel (by rw [HXK.out, HYK.out]; omega); rwa [HXK.out, HYK.out] at this, hbl.grown hgrow1 hbl.size (fun k hk => by cases hk; exact Nat.le_refl _)⟩
          case measure => simp [intOf]; omega
    · obtain rfl : k = a.length := by omega
      clear hlt hk
      have HF := Lib.hid (show ptrim zs = pcs 1000000000 (pv 1000000000 a - pv 1000000000 b) from HP.out.done (by decide) hll HLE.out)
      go_wp2_with fail
      refine (trim_at _ _ _ zs _ HKZ.out (Sl_own' HKZ.out hown (by omega))).mono ?_
      rintro e w' ⟨⟨rfl, hs1⟩, rfl⟩
      go_wp2
      go_ret
      exact ⟨_, _, rfl, by rw [← HF.out]; exact hs1, hbl⟩
theorem minus_any (a b : List Nat) (va vb : Value) (w : World) (ha : Good 1000000000 a) (hb : Good 1000000000 b) (hva : Sl .u64 w va a) (hvb : Sl .u64 w vb b) (hl : a.length < 1000000000) (hle : pv 1000000000 b ≤ pv 1000000000 a) :
    Calls Tryz.prog 138 #[va, vb] w (RetSl .u64 (pcs 1000000000 (pv 1000000000 a - pv 1000000000 b)) w) := (minus_at a b va vb w ha hb hva hvb hl hle).mono fun _ _ h => h.sl
end Go.Proofs.Kl
namespace Go.Proofs.Kl
open Go.RowKit
set_option maxHeartbeats 1000000 in
set_option maxRecDepth 100000 in
theorem times_any (a b : List Nat) (va vb : Value) (w : World) (ha : Good 1000000000 a) (hb : Good 1000000000 b) (hva : Sl .u64 w va a) (hvb : Sl .u64 w vb b) (hla : a.length < 1000000000) (hlb : b.length < 1000000000) :
    Calls Tryz.prog 139 #[va, vb] w (RetSl .u64 (pcs 1000000000 (pv 1000000000 a * pv 1000000000 b)) w) := by
  obtain ⟨i0, hi, hz0, hz1, hz2⟩ := info_parts infoU64
  obtain ⟨A, ca, rfl, hac, hca, hA⟩ := hva
  obtain ⟨A2, cb, rfl, hbc, hcb, hB⟩ := hvb
  have HX := Lib.hid hA
  have HY := Lib.hid hB
  have HGX := Lib.hid ha
  have HGY := Lib.hid hb
  clear hA hB ha hb
  go_enter Tryz.func139, Tryz.ntmps139
  go_wp2_with (at_make; refine wpList_make_full _ rfl _ _ 157 rfl w.heap.size 165 i0 (.int .u64 0) 1 Tryz.underlying157 hi hz0 hz1 _ _ _ _ (a.length + b.length + 1) rfl rfl (by omega) (by omega) ?b2 ?b3 (Nat.le_refl _) ?_)
  case b2 => rw [hz2]; omega
  case b3 => unfold maxLen; omega
  intro w0 hown0 hgrow0
  have hbl0 : Below w.heap.size w w0 := (Below.refl _ _).grown hgrow0 (Nat.le_refl _) (fun k h => by cases h)
  have ho0 : Rw .u64 165 w.heap.size w.heap.size (a.length + b.length + 1) (List.replicate (a.length + b.length + 1) 0) w0 := ⟨by simp, by rw [← nu_made, Nat.mul_one]; exact hown0⟩
  clear hgrow0 hown0
  generalize hN : a.length + b.length + 1 = N at ho0
  have HN := Lib.hid hN
  have hNb : N < 2000000001 := by omega
  clear hN
  go_wp2
  go_loopw [21] (fun si wr => ∃ (i : Nat) (out : List Nat), i ≤ a.length ∧ si = .int .i64 i ∧ Rw .u64 165 w.heap.size w.heap.size N out wr ∧ (Bel 1000000000 out ∧ pv 1000000000 out = pv 1000000000 (a.take i) * pv 1000000000 b) ∧ Below w.heap.size w wr)
    (fun si _ => a.length - (intOf si).toNat)
  case atStart => exact ⟨0, _, Nat.zero_le _, rfl, ho0, ⟨Bel_replicate _ _ (by decide), by rw [pv_replicate]; simp [pv]⟩, hbl0⟩
  case round =>
    obtain ⟨i, out, hi', rfl, ho, hv, hbl⟩ := hrel
    have HO := Lib.hid ho
    have HV := Lib.hid hv
    clear ho hv ho0 hbl0
    obtain ⟨wo, rfl⟩ : ∃ wo : World, wo = wr := ⟨_, rfl⟩
    by_cases hlt : i < a.length
    · obtain ⟨bx, ox, rfl, hcx⟩ := HX.out (by intro e; simp [e] at hlt)
      have hcell : wo.cell? ⟨bx, ox + i, none⟩ = some (.int .u64 (a.getD i 0 : Nat)) := cell_below hbl (hcx i (by omega))
      have hxlt : a.getD i 0 < 1000000000 := getD_lt (by omega) HGX.out.bel i
      clear hcx
      generalize hx : a.getD i 0 = x at hcell hxlt
      have HXK := Lib.hid hx
      clear hx
      go_wp2
      go_loopw [8, 28] (fun cr sk wr => ∃ (k c : Nat) (zs : List Nat), k ≤ b.length ∧ sk = .int .i64 k ∧ cr = .int .u64 c ∧ Rw .u64 165 w.heap.size w.heap.size N zs wr ∧ TimesIn 1000000000 a b N i k zs c ∧ Below w.heap.size w wr)
        (fun _ sk _ => b.length - (intOf sk).toNat)
      case atStart => exact ⟨0, 0, out, Nat.zero_le _, rfl, rfl, HO.out, TimesIn.start (by decide) HO.out.len HV.out.1 HV.out.2, hbl⟩
      case round =>
        obtain ⟨k, c, zs, hk, rfl, rfl, ho1, ht, hbl1⟩ := hrel
        have HO1 := Lib.hid ho1
        have HT := Lib.hid ht
        have hc1 := ht.small
        clear ho1 ht
        by_cases hlt2 : k < b.length
        · obtain ⟨by', oy, rfl, hcy⟩ := HY.out (by intro e; simp [e] at hlt2)
          have hcell2 : wr.cell? ⟨by', oy + k, none⟩ = some (.int .u64 (b.getD k 0 : Nat)) := cell_below hbl1 (hcy k (by omega))
          have hylt : b.getD k 0 < 1000000000 := getD_lt (by omega) HGY.out.bel k
          have hcell3 : wr.cell? ⟨w.heap.size, i + k, none⟩ = some (.int .u64 (zs.getD (i + k) 0 : Nat)) := HO1.out.cell (by have := HN.out; omega)
          have hfr3 : wr.frozen? ⟨w.heap.size, i + k, none⟩ = false := HO1.out.frozen _
          have hzlt : zs.getD (i + k) 0 < 1000000000 := getD_lt (by omega) HT.out.bel _
          have hik : i + k < N := by have := HN.out; omega
          have HS := Lib.hid (HT.out.step (by decide) HGX.out.bel HGY.out.bel hik)
          have hov := times_carry hxlt hylt hzlt hc1
          have hmul : x * b.getD k 0 < 1000000000000000000 := by have := mul_lt_bound hxlt hylt; omega
          clear hcy
          generalize hy : b.getD k 0 = y at hcell2 hylt hov hmul
          generalize hz : zs.getD (i + k) 0 = z at hcell3 hzlt hov
          have HYK := Lib.hid hy
          have HZK := Lib.hid hz
          clear hy hz
          go_wp2
          go_roundw
          case rel => exact ⟨k + 1, (c + (z + x * y)) / 1000000000, _, by omega, by go_num, by go_num, HO1.out.store' (i + k) ((c + (z + x * y)) % 1000000000) _ (by omega), by have := HS.out; rwa [HXK.out, HYK.out, HZK.out] at this, hbl1.setCell (Nat.le_refl _) _⟩
          case measure => simp [intOf]; omega
        · obtain rfl : k = b.length := by omega
          have hon := Lib.hid HT.out.on
          clear hlt2 hk
          obtain ⟨wp, rfl⟩ : ∃ wp : World, wp = wr := ⟨_, rfl⟩
          go_wp2
          go_loopw [8, 11] (fun cr sk wr => ∃ (k c : Nat) (zs : List Nat), k ≤ N ∧ sk = .int .i64 k ∧ cr = .int .u64 c ∧ Rw .u64 165 w.heap.size w.heap.size N zs wr ∧ TimesOn 1000000000 a b N i k zs c ∧ Below w.heap.size w wr)
            (fun _ sk _ => N - (intOf sk).toNat)
          case atStart => exact ⟨i + b.length, c, zs, by have := HN.out; omega, by go_num, rfl, HO1.out, hon.out, hbl1⟩
          case round =>
            obtain ⟨k, c, zs, hk, rfl, rfl, ho2, ht2, hbl2⟩ := hrel
            have HO2 := Lib.hid ho2
            have HT2 := Lib.hid ht2
            have hc2 := ht2.small
            clear ho2 ht2
            by_cases hc0 : 0 < c
            · have hkN : k < N := by have := HN.out; have := TimesOn.lt (by decide) HGX.out.bel HGY.out.bel hlt (by have := HT2.out; rwa [← HN.out] at this) hc0; omega
              have hcell3 : wr.cell? ⟨w.heap.size, k, none⟩ = some (.int .u64 (zs.getD k 0 : Nat)) := HO2.out.cell hkN
              have hfr3 : wr.frozen? ⟨w.heap.size, k, none⟩ = false := HO2.out.frozen _
              have hzlt : zs.getD k 0 < 1000000000 := getD_lt (by omega) HT2.out.bel _
              have HS := Lib.hid (HT2.out.step (by decide) hkN)
              generalize hz : zs.getD k 0 = z at hcell3 hzlt
              have HZK := Lib.hid hz
              clear hz
              go_wp2
              go_roundw
              case rel => exact ⟨k + 1, (c + z) / 1000000000, _, by omega, by go_num, by go_num, HO2.out.store' k ((c + z) % 1000000000) _ (by omega), by have := HS.out; rwa [HZK.out] at this, hbl2.setCell (Nat.le_refl _) _⟩
              case measure => simp [intOf]; omega
            · obtain rfl : c = 0 := by omega
              go_wp2
              go_roundw
              case rel => exact ⟨i + 1, zs, by omega, by go_num, HO2.out, ⟨HT2.out.bel, HT2.out.next⟩, hbl2⟩
              case measure => simp [intOf]; omega
    · obtain rfl : i = a.length := by omega
      clear hlt hi'
      have HF := Lib.hid (show ptrim out = pcs 1000000000 (pv 1000000000 a * pv 1000000000 b) from times_done (by decide) HV.out.1 HV.out.2)
      go_wp2_with fail
      refine (trim_at _ _ _ out _ HO.out.len.symm (HO.out.Sl (by omega))).mono ?_
      rintro e w' ⟨⟨rfl, hs1⟩, rfl⟩
      go_wp2
      go_ret
      exact ⟨_, rfl, by rw [← HF.out]; exact hs1, hbl⟩
end Go.Proofs.Kl
namespace Go.Proofs.Kl
open Go.RowKit
theorem Sl_one (k : IntKind) (w : World) (e : TypeId) (d : Nat) : Sl k (w.alloc (.cells #[.int k (d : Int)] e)) (.slice (some ⟨w.heap.size, 0, none⟩) 1 1) [d] := by
  refine ⟨_, 1, rfl, ⟨Nat.le_refl _, fun h => by cases h⟩, by simp, fun _ => ⟨_, 0, rfl, fun j hj => ?_⟩⟩
  have h0 : j = 0 := by simp at hj; omega
  subst h0
  have := World.news_of_block (w := w.alloc (.cells #[.int k (d : Int)] e)) (cs := #[.int k (d : Int)]) (t := e) (fr := (0, 0)) (heap_alloc_new w _) 0 (.int k (d : Int)) rfl
  rw [addr_add] at this
  simp
set_option maxHeartbeats 1000000 in
set_option maxRecDepth 100000 in
theorem small_any (a : List Nat) (d : Nat) (va : Value) (w : World) (ha : Good 1000000000 a) (hd : d < 1000000000) (hva : Sl .u64 w va a) (hla : a.length < 1000000000) :
    Calls Tryz.prog 171 #[va, .int .u64 d] w (RetSl .u64 (pcs 1000000000 (pv 1000000000 a * d)) w) := by
  have HA := Lib.hid hva
  have HG := Lib.hid ha
  clear hva ha
  go_enter Tryz.func171, Tryz.ntmps171
  go_wp2_with fail
  have hs := Sl_one .u64 w 165 d
  refine (trim_at _ 1 1 [d] _ rfl hs).mono ?_
  rintro e w' ⟨⟨rfl, hs1⟩, rfl⟩
  rw [ptrim_single (by decide) hd] at *
  have hb1 : Below w.heap.size w (w.alloc (.cells #[.int .u64 (d : Int)] 165)) := (Below.refl _ _).alloc (Nat.le_refl _) _
  go_wp2_with fail
  refine (times_any a (pcs 1000000000 d) _ _ _ HG.out (Good_pcs (by decide) _) (HA.out.below hb1) hs1 hla (by have := (pcs_length_le (n := d) (k := 1) (show 1 < 1000000000 by decide)).2 (by omega); omega)).mono ?_
  rw [pv_pcs (by decide)]
  rintro e w' ⟨v, rfl, hs2, hb2⟩
  go_wp2
  go_ret
  exact ⟨_, rfl, hs2, below_trans hb1 hb2⟩
end Go.Proofs.Kl
namespace Go.Proofs.Kl
open Go.RowKit Go.Shelf
attribute [local go_sem] Oper.semAt_some

theorem _root_.Go.Boxed.below {W W' : World} {B : Nat} {t : TypeId} {v : Value} (h : Boxed W B t v) (hb : Below W.heap.size W W') : Boxed W' B t v := (hb.block B h.lt).trans h
theorem boxed_hr {W : World} {B : Nat} {t : TypeId} {v : Value} {row : Option Nat} (h : Boxed W B t v) (hr : ∀ r, row = some r → ∃ o : Obj, W.heap[r]? = some o ∧ o.isCells = false) : some B ≠ row := fun e => by
  obtain ⟨o, h1, h2⟩ := hr B e.symm
  rw [show W.heap[B]? = _ from h] at h1; injection h1 with h1; subst h1; simp [Obj.isCells] at h2
theorem rw_hr {k : IntKind} {e : TypeId} {base g N : Nat} {zs : List Nat} {w : World} {row : Option Nat} (h : Rw k e base g N zs w) (hr : ∀ r, row = some r → ∃ o : Obj, w.heap[r]? = some o ∧ o.isCells = false) : some g ≠ row := fun e => by
  obtain ⟨o, h1, h2⟩ := hr g e.symm
  obtain ⟨cur, hc⟩ := h.block
  rw [hc] at h1; injection h1 with h1; subst h1; simp [Obj.isCells] at h2

theorem Sl.kept {k : IntKind} {W W' : World} {v : Value} {zs : List Nat} {row : Option Nat} (hs : Sl k W v zs) (hg : W.grownBy W' row) (hr : ∀ r, row = some r → ∃ o : Obj, W.heap[r]? = some o ∧ o.isCells = false) : Sl k W' v zs := by
  obtain ⟨A, c, e, h1, h2, h3⟩ := hs
  refine ⟨A, c, e, h1, h2, fun hz => ?_⟩
  obtain ⟨b, off, e2, h4⟩ := h3 hz
  exact ⟨b, off, e2, fun j hj => cell_kept (h4 j hj) hg hr⟩
theorem Sl_trim' {k : IntKind} {w : World} {A : Option Addr} {n c : Nat} {zs : List Nat} (hn : n = zs.length) (hs : Sl k w (.slice A n c) zs) : Sl k w (.slice A (ptrim zs).length c) (ptrim zs) := by
  subst hn; exact Sl_trim hs

/-- what has come when k rounds are over. -/
def upto {α : Type} (f : Nat → α) (k : Nat) : List α := (List.range k).map f
theorem upto_succ {α : Type} (f : Nat → α) (k : Nat) : upto f (k + 1) = upto f k ++ [f k] := by simp [upto, List.range_succ]
theorem upto_length {α : Type} (f : Nat → α) (k : Nat) : (upto f k).length = k := by simp [upto]
/-- what comes in the round k: the place and the number, from the end. -/
def bk (zs : List Nat) (k : Nat) : Nat × Nat := (zs.length - 1 - k, zs.getD (zs.length - 1 - k) 0)
abbrev Bk (n : Nat) := { x : Nat × Nat // x.1 < n ∧ x.2 < 1000000000 }
def bks (zs : List Nat) (h : 0 < zs.length ∧ Bel 1000000000 zs) (k : Nat) : Bk zs.length := ⟨bk zs k, by have := getD_lt (by decide) h.2 (zs.length - 1 - k); simp only [bk]; omega⟩

/-- what a round keeps: all below n₀, and the iterator's own box. -/
structure KB (n₀ Bs : Nat) (W W' : World) : Prop where
  below : Below n₀ W W'
  box : ∀ v, Boxed W Bs 157 v → Boxed W' Bs 157 v
theorem KB.refl (n₀ Bs : Nat) (W : World) : KB n₀ Bs W W := ⟨Below.refl _ _, fun _ h => h⟩
theorem KB.trans {n₀ Bs : Nat} {A B C : World} (h : KB n₀ Bs A B) (k : KB n₀ Bs B C) : KB n₀ Bs A C := ⟨h.below.trans k.below, fun v hv => k.box v (h.box v hv)⟩
theorem KB.putObj {n₀ Bs : Nat} {w : World} (hn : n₀ ≤ w.heap.size) (W : World) (l : Nat) (o o' : Obj) (hl : w.heap.size ≤ l) (h : W.heap[l]? = some o) (hc : o.isCells = false) (hw : o.isWalk = false) : KB n₀ Bs W (W.putObj l o') :=
  ⟨belowK_b hn W l o o' hl h hc hw, fun v hv => hv.kept (grownBy_putObj' W l o') (fun e => by injection e with e; subst e; rw [show W.heap[Bs]? = _ from hv] at h; injection h with h; subst h; simp [Obj.isCells] at hc)⟩
set_option maxRecDepth 100000 in
set_option maxHeartbeats 2000000 in
theorem back1_in (F : Fence) (n : Nat) (h8 : F.fn 192) (hro : F.round = none) (hn : 1 ≤ n) (l Bs n₀ b off cap : Nat) (zs : List Nat) (hreach : zs.length ≤ 1000000000000) (hb : b < n₀) (hz0 : 0 < zs.length ∧ Bel 1000000000 zs) (J Jx : List (Bk zs.length) → World → Prop)
    (hY : ∀ pre x W, J pre W → pre.length < zs.length → YieldAt F (n - 1) Tryz.prog l #[.int .i64 (x.1.1 : Int), .int .u64 (x.1.2 : Int)] W fun e W' =>
      (e = .returned (.bool true) ∧ J (pre ++ [x]) W' ∧ KB n₀ Bs W W') ∨ (e = .returned (.bool false) ∧ Jx (pre ++ [x]) W'))
    (W : World) (hBs : Boxed W Bs 157 (.slice (some ⟨b, off, none⟩) zs.length cap)) (hc : Cs .u64 W b off zs) (h0 : J [] W) :
    CallsIn F n Tryz.prog 192 #[.func (.yield l) #[] #[], .pointer (some ⟨Bs, 0, none⟩)] W fun e W' => (∃ v, e = .returned v) ∧
      ((∃ ys, ys = upto (bks zs hz0) zs.length ∧ J ys W') ∨ (∃ pre, (∃ k, k ≤ zs.length ∧ pre = upto (bks zs hz0) k) ∧ Jx pre W')) := by
  refine callsIn_of_wp Tryz.func192 rfl h8 ?_ hro
  simp only [Tryz.ntmps192, List.size_toArray, List.length_cons, List.length_nil, Nat.reduceAdd, Nat.reduceSub, Array.replicate_succ, Array.replicate_zero, List.push_toArray, List.append_toArray, List.nil_append, List.cons_append]
  have hBs1 := hBs.cell
  gi_wp2
  gi_loopw [3] (fun i wr => ∃ k : Nat, k ≤ zs.length ∧ i = .int .i64 ((zs.length : Int) - 1 - k) ∧ J (upto (bks zs hz0) k) wr ∧ KB n₀ Bs W wr)
    (fun i _ => (intOf i + 1).toNat)
  case atStart => exact ⟨0, Nat.zero_le _, by simp, h0, KB.refl _ _ _⟩
  case round =>
    obtain ⟨k, hk, rfl, hJs, hnx⟩ := hrel
    have hBs' : wr.cell? ⟨Bs, 0, none⟩ = some (.slice (some ⟨b, off, none⟩) zs.length cap) := (hnx.box _ hBs).cell
    by_cases hlt : k < zs.length
    · have hcx : wr.cell? ⟨b, off + (zs.length - 1 - k), none⟩ = some (.int .u64 (zs.getD (zs.length - 1 - k) 0 : Nat)) := (hnx.below.cell (p := ⟨b, off + (zs.length - 1 - k), none⟩) hb).trans (hc _ (by omega))
      obtain ⟨fn, tmps, assign, body, hy, hR⟩ := hY _ (bks zs hz0 k) wr hJs (by rw [upto_length]; exact hlt)
      obtain ⟨m, hm⟩ : ∃ m, m = zs.length - 1 - k := ⟨_, rfl⟩
      have hm1 : (zs.length : Int) - 1 - k = (m : Int) := by omega
      simp only [bks, bk] at hy
      rw [← hm] at hcx hy
      rw [hm1]
      have hm2 : m < zs.length := by omega
      have HM := Lib.hid hm1
      have HM2 := Lib.hid hm
      clear hm1 hm
      generalize hz : zs.getD m 0 = z at hcx hy
      have HZ := Lib.hid hz
      clear hz
      gi_wp2
      refine hR.mono ?_
      rintro e W3 (⟨rfl, hJ3, hk3⟩ | ⟨rfl, hJx3⟩)
      · gi_wp2
        go_roundw
        case rel => exact ⟨k + 1, by omega, by have := HM.out; congr 1; omega, by rw [upto_succ]; exact hJ3, hnx.trans hk3⟩
        case measure => simp [intOf]
      · gi_wp2
        refine bodyPost_ret (results_none rfl _ _ _) rfl ?_
        exact ⟨⟨_, rfl⟩, .inr ⟨_, ⟨k + 1, by omega, (upto_succ _ _).symm⟩, hJx3⟩⟩
    · obtain rfl : k = zs.length := by omega
      rw [show (zs.length : Int) - 1 - (zs.length : Int) = -1 by omega]
      gi_wp2
      go_end0
      exact ⟨⟨_, rfl⟩, .inl ⟨_, rfl, hJs⟩⟩

set_option maxRecDepth 100000 in
set_option maxHeartbeats 1000000 in
theorem back_in (F : Fence) (n : Nat) (h6 : F.fn 170) (hro : F.round = none) (a : Option Addr) (len cap : Nat) (w : World) :
    CallsIn F n Tryz.prog 170 #[.slice a len cap] w fun e w' => e = .returned (.func (.func 192) #[] #[.pointer (some ⟨w.heap.size, 0, none⟩)]) ∧ w' = w.alloc (.cells #[.slice a len cap] 157) := by
  refine callsIn_of_wp Tryz.func170 rfl h6 ?_ hro
  simp only [Tryz.ntmps170, List.size_toArray, List.length_cons, List.length_nil, Nat.reduceAdd, Nat.reduceSub, Array.replicate_succ, Array.replicate_zero, List.push_toArray, List.append_toArray, List.nil_append, List.cons_append]
  gi_wp2
  go_ret
  exact ⟨rfl, rfl⟩

theorem back_stops (F : Fence) (n : Nat) (h8 : F.fn 192) (hro : F.round = none) (hn : 1 ≤ n) (Bs n₀ b off cap : Nat) (zs : List Nat) (hreach : zs.length ≤ 1000000000000) (w : World) (hb : b < n₀)
    (hc : Boxed w Bs 157 (.slice (some ⟨b, off, none⟩) zs.length cap)) (hI : Cs .u64 w b off zs) (hz0 : 0 < zs.length ∧ Bel 1000000000 zs) :
    SeqStopsK F n Tryz.prog 192 #[.pointer (some ⟨Bs, 0, none⟩)] (fun x : Bk zs.length => #[Value.int .i64 (x.1.1 : Int), Value.int .u64 (x.1.2 : Int)]) (KB n₀ Bs) (fun ys => ys = upto (bks zs hz0) zs.length)
      (fun pre => ∃ k, k ≤ zs.length ∧ pre = upto (bks zs hz0) k) zs.length w := fun l J Jx W hW _ _ hY h0 => by
  exact back1_in F n h8 hro hn l Bs n₀ b off cap zs hreach hb hz0 J Jx hY W (hc.below hW) (hI.below hW) h0
end Go.Proofs.Kl
namespace Go.Proofs.Kl
open Go.RowKit Go.Shelf

theorem order_lt (a b : List Nat) (va vb : Value) (w : World) (ha : Good 1000000000 a) (hb : Good 1000000000 b) (hva : Sl .u64 w va a) (hvb : Sl .u64 w vb b) (h : pv 1000000000 a < pv 1000000000 b) :
    Calls Tryz.prog 150 #[va, vb] w (RetInt (-1) w) := by have := order_any a b va vb w ha hb hva hvb; rwa [cmpN_lt h] at this
theorem order_ge (a b : List Nat) (va vb : Value) (w : World) (ha : Good 1000000000 a) (hb : Good 1000000000 b) (hva : Sl .u64 w va a) (hvb : Sl .u64 w vb b) (h : pv 1000000000 b ≤ pv 1000000000 a) :
    Calls Tryz.prog 150 #[va, vb] w fun e w' => ∃ r : Int, 0 ≤ r ∧ r ≤ 1 ∧ e = .returned (.int .i64 r) ∧ Below w.heap.size w w' := by
  refine (order_any a b va vb w ha hb hva hvb).mono ?_
  rintro e w' ⟨rfl, h2⟩
  refine ⟨_, ?_, ?_, rfl, h2⟩ <;> unfold cmpN <;> split <;> (try split) <;> omega
theorem order_gt (a b : List Nat) (va vb : Value) (w : World) (ha : Good 1000000000 a) (hb : Good 1000000000 b) (hva : Sl .u64 w va a) (hvb : Sl .u64 w vb b) (h : pv 1000000000 b < pv 1000000000 a) :
    Calls Tryz.prog 150 #[va, vb] w (RetInt 1 w) := by have := order_any a b va vb w ha hb hva hvb; rwa [cmpN_gt h] at this
theorem order_le (a b : List Nat) (va vb : Value) (w : World) (ha : Good 1000000000 a) (hb : Good 1000000000 b) (hva : Sl .u64 w va a) (hvb : Sl .u64 w vb b) (h : pv 1000000000 a ≤ pv 1000000000 b) :
    Calls Tryz.prog 150 #[va, vb] w fun e w' => ∃ r : Int, -1 ≤ r ∧ r ≤ 0 ∧ e = .returned (.int .i64 r) ∧ Below w.heap.size w w' := by
  refine (order_any a b va vb w ha hb hva hvb).mono ?_
  rintro e w' ⟨rfl, h2⟩
  refine ⟨_, ?_, ?_, rfl, h2⟩ <;> unfold cmpN <;> split <;> (try split) <;> omega

def RetSl2 (k : IntKind) (q r : List Nat) (w : World) (e : Ending) (w' : World) : Prop := ∃ vq vr, e = .returned (.tuple #[vq, vr]) ∧ Sl k w' vq q ∧ Sl k w' vr r ∧ Below w.heap.size w w'

set_option maxHeartbeats 1000000 in
set_option maxRecDepth 100000 in
theorem divide_less (a b : List Nat) (va vb : Value) (w : World) (ha : Good 1000000000 a) (hb : Good 1000000000 b) (hva : Sl .u64 w va a) (hvb : Sl .u64 w vb b) (h : pv 1000000000 a < pv 1000000000 b) :
    Calls Tryz.prog 135 #[va, vb] w (RetSl2 .u64 [] a w) := by
  obtain ⟨A1, ca, rfl, ra⟩ := id hva
  obtain ⟨A2, cb, rfl, rb⟩ := id hvb
  clear ra rb
  have HA := Lib.hid hva
  have HB := Lib.hid hvb
  have HGA := Lib.hid ha
  have HGB := Lib.hid hb
  have H := Lib.hid h
  clear hva hvb ha hb h
  go_enter Tryz.func135, Tryz.ntmps135
  go_wp2_with fail
  have hb0 : Below w.heap.size w ((w.alloc (.cells #[.slice A2 b.length cb] 157)).alloc (.cells #[.slice none 0 0] 157)) := ((Below.refl _ _).alloc (Nat.le_refl _) _).alloc (by simp) _
  refine (order_lt a b _ _ _ HGA.out HGB.out (HA.out.below hb0) (HB.out.below hb0) H.out).mono ?_
  rintro e w1 ⟨rfl, hb1⟩
  obtain ⟨hc, hf⟩ := bcell hb1
  have hz : w.heap.size + 2 ≤ w1.heap.size := by have := hb1.size; simpa using this
  go_wp2
  have hb2 := below_trans hb0 hb1
  have hb3 := hb2.setCell (p := ⟨w.heap.size + 1, 0, none⟩) (Nat.le_succ _) (.slice none 0 0)
  exact bodyPost_ret (v := .tuple #[.slice none 0 0, .slice A1 a.length ca]) (by simp [results, Tryz.results135, go_sem, hc]) rfl ⟨_, _, rfl, Sl_nil _ _, HA.out.below hb3, hb3⟩

/-- what the round k of the short division leaves. -/
structure ShortIn (a : List Nat) (d : Nat) (k : Nat) (q : List Nat) (r : Nat) : Prop where
  at' : ShortAt 1000000000 a d a.length (a.length - k) q r

end Go.Proofs.Kl
namespace Go.Proofs.Kl

/-- an operation that defers nothing does in a round of a wide fence what it does anywhere. -/
theorem operIn_of_oper {l n : Nat} {P : Program} {o : Oper} {a : Act} {w : World} {K : Act → World → Prop} {Q : Exit → Act → World → Prop} (hd : ∀ c, o.op ≠ .defer c) (h : o.wp P a w K Q) :
    o.wpIn (Fence.wide.inRound l) n P a w K Q := by
  unfold Oper.wpIn
  refine ⟨fun _ _ => trivial, ?_⟩
  rw [Oper.semAt_eq _ _ _ hd]
  unfold Oper.wp at h
  generalize (execOp a.eval o).run P w = r at *
  cases r with
  | ok x w' =>
    cases x <;> simp only [Oper.upon, Oper.uponIn] at h ⊢
    case value u => exact h
    case skip => exact h
    case defer d => exact h
    case enter f args => exact ⟨fun h' => (by cases h'), (callsIn_wide.2 h : CallsIn Fence.wide (n - 1) P f args w' _)⟩
    case row row args => exact ⟨fun h' => (by cases h'), fun c cs _ => let ⟨v, w2, r, s⟩ := h c cs; ⟨v, w2, r, stepsIn_wide.2 s⟩⟩
  | halt x w' => cases x <;> simp only [Oper.upon, Oper.uponIn] at h ⊢ <;> exact h

theorem anyIn_of_any {l n : Nat} {P : Program} {md : Region.Mode} {ops : Array Oper} {Q : Exit → Act → World → Prop} (hd : ∀ (i : Nat) (o : Oper), ops[i]? = some o → ∀ c, o.op ≠ .defer c) (hL : ¬ LetsOut Q) :
    ∀ (fuel : Nat) (listed : Array Bool) (a : Act) (w : World), wpAny P md ops Q fuel listed a w → wpAnyIn (Fence.wide.inRound l) n P md ops Q fuel listed a w := by
  intro fuel
  induction fuel with
  | zero => intro listed a w h; exact h
  | succ fuel ih =>
    intro listed a w h
    refine ⟨h.1, fun i hi => ?_⟩
    have h2 := wpOp_mono (fun a' w' h' => ih _ a' w' h') (h.2 i hi)
    unfold wpOp at h2
    unfold wpOpIn
    cases ho : ops[i]? with
    | none => simpa [ho] using h2
    | some o =>
      simp only [ho] at h2 ⊢
      by_cases hw : Region.wanted o (yielded ops a.tmps) = true
      · simp only [hw, if_true] at h2 ⊢
        rcases h2 with h2 | ⟨_, hl⟩
        · exact operIn_of_oper (hd i o ho) h2
        · exact absurd hl hL
      · simp only [hw, Bool.false_eq_true, if_false] at h2 ⊢
        exact ⟨fun _ _ => trivial, h2⟩

section
variable {P : Program} {ops : Array Oper} {Q : Exit → Act → World → Prop} {md : Region.Mode} {z : Nat} {T : World → Prop}
/-- whichever order comes: T holds behind each operation but the one with the number z, which comes last. -/
def anyZ (P : Program) (md : Region.Mode) (ops : Array Oper) (Q : Exit → Act → World → Prop) (z : Nat) (T : World → Prop) : Nat → Array Bool → Act → World → Prop
  | 0, listed, a, w => Region.ready md ops listed = [] ∧ Q .normal a w
  | f + 1, listed, a, w => (Region.ready md ops listed = [] → Q .normal a w) ∧
      ∀ i ∈ Region.ready md ops listed, wpOp P ops Q i (fun a' w' => (i = z ∨ T w') ∧ anyZ P md ops Q z T f (listed.setIfInBounds i true) a' w') a w
theorem any_of_anyZ : ∀ (f : Nat) (listed : Array Bool) (a : Act) (w : World), anyZ P md ops Q z T f listed a w → wpAny P md ops Q f listed a w := by
  intro f
  induction f with
  | zero => intro _ _ _ h; exact h
  | succ f ih => intro _ _ _ h; exact ⟨h.1, fun i hi => wpOp_mono (fun a' w' h' => ih _ a' w' h'.2) (h.2 i hi)⟩
theorem notReady_of_waits {i : Nat} {oz : Oper} {listed : Array Bool} (hz : ops[z]? = some oz) (hw : ∃ e ∈ oz.after, Region.binds md e = true ∧ e.on = i) (hi : listed.getD i true = false) : z ∉ Region.ready md ops listed := by
  intro h
  obtain ⟨_, o, ho, hall⟩ := mem_ready.1 h
  rw [hz] at ho
  obtain rfl := Option.some.inj ho
  obtain ⟨e, he, hb, rfl⟩ := hw
  have h1 := hall e he hb
  rcases Nat.lt_or_ge e.on listed.size with h' | h'
  · simp [h'] at h1 hi; rw [hi] at h1; cases h1
  · simp [Array.getElem?_eq_none h'] at hi
theorem anyZ_first {i : Nat} {oi oz : Oper} {v : Value} (hi : ops[i]? = some oi) (hz : ops[z]? = some oz) (hw : ∃ e ∈ oz.after, Region.binds md e = true ∧ e.on = i) (hsel : ∀ (j : Nat) (o : Oper) cs b, ops[j]? = some o → o.op ≠ .select cs b)
    (hQ : ∀ c a w, Q (.panic c) (a.put oi.dst v) w → Q (.panic c) a w) :
    ∀ (f : Nat) (listed : Array Bool) (a : Act) (w : World),
      (∀ j oj, ops[j]? = some oj → j ≠ i → listed.getD j true = false → (∀ e ∈ oj.after, Region.binds md e = true → e.on ≠ i) → oi.apart ops oj = true) →
      i ∈ Region.ready md ops listed → YieldsIf P ops T oi v a → T w →
      anyZ P md ops Q z T f (listed.setIfInBounds i true) (a.put oi.dst v) w → anyZ P md ops Q z T (f + 1) listed a w := by
  intro f
  induction f with
  | zero =>
    intro listed a w _ hr hy hT H
    refine ⟨fun h => (by rw [h] at hr; cases hr), fun j hj => ?_⟩
    rcases Nat.decEq j i with hji | hji
    · have := ready_mono hj hji
      rw [H.1] at this; cases this
    · subst hji; exact hy.wpOp hi hT ⟨.inr hT, H⟩
  | succ f ih =>
    intro listed a w hfree hr hy hT H
    refine ⟨fun h => (by rw [h] at hr; cases hr), fun j hj => ?_⟩
    rcases Nat.decEq j i with hji | hji
    · obtain ⟨hun, oj, hoj, hall⟩ := mem_ready.1 hj
      have hiu := (mem_ready.1 hr).1
      have hjz : j ≠ z := fun e => notReady_of_waits hz hw hiu (e ▸ hj)
      have hno : ∀ e ∈ oj.after, Region.binds md e = true → e.on ≠ i := fun e he hb heq => by
        have h1 := hall e he hb
        rw [heq] at h1
        rcases Nat.lt_or_ge i listed.size with h' | h'
        · simp [h'] at hiu h1; rw [hiu] at h1; cases h1
        · simp [Array.getElem?_eq_none h'] at hiu
      have h2 := wpOp_putIf hoj (hfree j oj hoj hji hun hno) (fun cs b => hsel i oi cs b hi) (fun cs b => hsel j oj cs b hoj) hQ hy (H.2 j (ready_mono hj hji))
      refine wpOp_mono (fun a' w' h3 => ?_) h2
      have hT' : T w' := h3.2.1.resolve_left hjz
      refine ⟨.inr hT', ih (listed.setIfInBounds j true) a' w' (fun k ok hk hki hku hkn => ?_) (ready_mono hr (Ne.symm hji)) h3.1 hT' ?_⟩
      · refine hfree k ok hk hki ?_ hkn
        rcases Nat.decEq j k with hjk | hjk
        · rw [getD_set_ne true hjk] at hku; exact hku
        · subst hjk; exact hun
      · rw [Array.setIfInBounds_comm _ _ hji]; exact h3.2.2
    · subst hji; exact hy.wpOp hi hT ⟨.inr hT, H⟩
/-- take number i first. -/
theorem anyZ_take {i : Nat} {oi oz : Oper} {v : Value} {f : Nat} {listed : Array Bool} {a : Act} {w : World} (hi : ops[i]? = some oi) (hz : ops[z]? = some oz) (hw : (oz.after.any fun e => Region.binds md e && e.on == i) = true)
    (hs : Region.noSelect ops = true) (hf : Region.free md ops listed i = true) (hr : (Region.ready md ops listed).contains i = true)
    (hQ : ∀ c a w, Q (.panic c) (a.put oi.dst v) w → Q (.panic c) a w) (hT : T w) (hy : T w → YieldsIf P ops T oi v a)
    (h : anyZ P md ops Q z T f (listed.setIfInBounds i true) (a.put oi.dst v) w) : anyZ P md ops Q z T (f + 1) listed a w :=
  anyZ_first hi hz (by
    obtain ⟨k, hk, h⟩ := Array.any_eq_true.1 hw
    simp only [Bool.and_eq_true, beq_iff_eq] at h
    exact ⟨oz.after[k], Array.getElem_mem hk, h.1, h.2⟩) (Region.noSelect_spec hs) hQ f listed a w (Region.free_spec hi hf) (by simpa using hr) (hy hT) hT h
/-- the one that may come up comes up. -/
theorem anyZ_one {i : Nat} {o : Oper} {f : Nat} {listed : Array Bool} {a : Act} {w : World} (hr : Region.ready md ops listed = [i]) (ho : ops[i]? = some o)
    (h : ∀ K : Act → World → Prop, (∀ a' w', ((i = z ∨ T w') ∧ anyZ P md ops Q z T f (listed.setIfInBounds i true) a' w') → K a' w') → if Region.wanted o (yielded ops a.tmps) = true then o.wp P a w K Q else K (a.put o.dst undef) w) :
    anyZ P md ops Q z T (f + 1) listed a w := by
  refine ⟨fun h0 => (by rw [hr] at h0; cases h0), fun j hj => ?_⟩
  rw [hr] at hj
  obtain rfl : j = i := by simpa using hj
  have := h _ (fun a' w' h => h)
  unfold wpOp
  simp only [ho]
  by_cases hw : Region.wanted o (yielded ops a.tmps) = true
  · rw [if_pos hw] at this ⊢; exact .inl this
  · rw [if_neg hw] at this ⊢; exact this
theorem anyZ_done {listed : Array Bool} {a : Act} {w : World} (hr : Region.ready md ops listed = []) (h : Q .normal a w) : ∀ f, anyZ P md ops Q z T f listed a w
  | 0 => ⟨hr, h⟩
  | _ + 1 => ⟨fun _ => h, by rw [hr]; simp⟩
end

/-- a region that defers nothing, in a round. -/
theorem regionIn_held {l n id : Nat} {P : Program} {ops : Array Oper} {Q : Exit → Act → World → Prop} {a : Act} {w : World} (z : Nat) (T : World → Prop) (hm : P.follows .mixedOrders = true)
    (hd : ∀ o ∈ ops.toList, (match o.op with | .defer _ => false | _ => true) = true) (hL : ¬ LetsOut Q)
    (h : anyZ P .any ops Q z T ops.size (Array.replicate ops.size false) a w.drew) : (Code.region id ops true).wpIn (Fence.wide.inRound l) n P Q a w :=
  wpIn_region_any hm (anyIn_of_any (fun i o ho c e => by have := hd o (by rw [Array.mem_toList_iff]; exact Array.mem_of_getElem? ho); rw [e] at this; cases this) hL _ _ _ _ (any_of_anyZ _ _ _ _ h))
theorem store_one {P : Program} {o : Oper} {a : Act} {w : World} {K : Act → World → Prop} {Q : Exit → Act → World → Prop} (t : TypeId) (x y : Operand) (ho : o.op = .store t x y) (hsz : (sizeOf t).run P w = .ok 1 w) (p : Addr) (k : IntKind) (n c : Int) (hx : a.eval x = .pointer (some p)) (hy : a.eval y = .int k n)
    (hc : w.cell? p = some (.int k c)) (hf : w.frozen? p = false) (h : K (a.put o.dst undef) (w.setCell p (.int k n))) : o.wp P a w K Q := by
  unfold Oper.wp execOp
  rw [ho]
  simp only [hx, hy]
  go_simp
  exact h
theorem size244 (w : World) : (sizeOf 165).run Tryz.prog w = .ok 1 w := by kernel_rfl
end Go.Proofs.Kl
namespace Go.Proofs.Kl
open Go.RowKit Go.Shelf
attribute [local go_sem] Oper.semAt_some

/-- the state of the short division when some rounds are over. -/
def sst (d : Nat) (n : Nat) (pre : List (Bk n)) : List Nat × Nat := pre.foldl (fun s x => (s.1.set x.1.1 ((s.2 * 1000000000 + x.1.2) / d), (s.2 * 1000000000 + x.1.2) % d)) (List.replicate n 0, 0)
theorem sst_snoc (d n : Nat) (pre : List (Bk n)) (x : Bk n) : sst d n (pre ++ [x]) = ((sst d n pre).1.set x.1.1 (((sst d n pre).2 * 1000000000 + x.1.2) / d), ((sst d n pre).2 * 1000000000 + x.1.2) % d) := by simp [sst]
theorem sst_len (d n : Nat) (pre : List (Bk n)) : (sst d n pre).1.length = n := by
  have key : ∀ (pre : List (Bk n)) (s : List Nat × Nat), s.1.length = n → (pre.foldl (fun s x => (s.1.set x.1.1 ((s.2 * 1000000000 + x.1.2) / d), (s.2 * 1000000000 + x.1.2) % d)) s).1.length = n := by
    intro pre
    induction pre with
    | nil => intro s h; exact h
    | cons x r ih => intro s h; exact ih _ (by simp [h])
  exact key pre _ (by simp)
theorem sst_lt (d n : Nat) (hd : 0 < d) (pre : List (Bk n)) : (sst d n pre).2 < d := by
  have key : ∀ (pre : List (Bk n)) (s : List Nat × Nat), s.2 < d → (pre.foldl (fun s x => (s.1.set x.1.1 ((s.2 * 1000000000 + x.1.2) / d), (s.2 * 1000000000 + x.1.2) % d)) s).2 < d := by
    intro pre
    induction pre with
    | nil => intro s h; exact h
    | cons x r ih => intro s h; exact ih _ (Nat.mod_lt _ hd)
  exact key pre _ (by simpa [sst] using hd)
theorem sst_at {zs : List Nat} {d : Nat} (hz0 : 0 < zs.length ∧ Bel 1000000000 zs) (hd : 0 < d) (hdB : d ≤ 1000000000) : ∀ k, k ≤ zs.length → ShortAt 1000000000 zs d zs.length (zs.length - k) (sst d zs.length (upto (bks zs hz0) k)).1 (sst d zs.length (upto (bks zs hz0) k)).2 := by
  intro k
  induction k with
  | zero => intro _; exact ShortAt.start (by decide) hd
  | succ k ih =>
    intro hk
    have h := ih (by omega)
    rw [upto_succ, sst_snoc]
    rw [show zs.length - k = (zs.length - (k + 1)) + 1 by omega] at h
    have := h.step hdB hz0.2 (by omega) (by omega)
    simp only [bks, bk]
    rw [show zs.length - 1 - k = zs.length - (k + 1) by omega]
    exact this

theorem noPanic_normal {Q : Exit → Act → World → Prop} {a : Act} {w : World} (h : Q .normal a w) : NoPanic Q .normal a w := h
theorem quo_u64 {x d : Nat} (hx : x < 18446744073709551616) : IntKind.u64.wrap (((x : Nat) : Int).tdiv (d : Int)) = (x : Int) / (d : Int) := by
  rw [Int.tdiv_eq_ediv_of_nonneg (by omega)]
  have h1 : (x : Int) / (d : Int) ≤ x := Int.ediv_le_self _ (by omega)
  have h2 : 0 ≤ (x : Int) / (d : Int) := Int.ediv_nonneg (by omega) (by omega)
  have e : (2 : Int) ^ IntKind.u64.bits = 18446744073709551616 := by rfl
  simp only [IntKind.wrap, e]
  exact Int.emod_eq_of_lt h2 (by omega)
theorem bound_u64 {r d v : Nat} (h : r < d) (h2 : d < 1000000000) (h3 : v < 1000000000) : r * 1000000000 + v < 18446744073709551616 := by omega
theorem rem_u64 {x d : Nat} : ((x : Nat) : Int).tmod (d : Int) = (x : Int) % (d : Int) := Int.tmod_eq_emod_of_nonneg (by omega)
theorem grownBy_setCell2 (W : World) (b i : Nat) (v : Value) : W.grownBy (W.setCell ⟨b, i, none⟩ v) (some b) :=
  ⟨rfl, rfl, rfl, by simp, fun k _ hk => heap_setCell_other W ⟨b, i, none⟩ k v (fun e => hk (by simp [e]))⟩
set_option maxHeartbeats 4000000 in
set_option maxRecDepth 100000 in
theorem divide_short (a : List Nat) (d : Nat) (va : Value) (A2 : Option Addr) (cb : Nat) (w : World) (ha : Good 1000000000 a) (hd0 : 0 < d) (hdB : d < 1000000000) (hva : Sl .u64 w va a) (hvb : Sl .u64 w (.slice A2 1 cb) [d]) (h : d ≤ pv 1000000000 a) (hla : a.length < 1000000000) :
    Calls Tryz.prog 135 #[va, .slice A2 1 cb] w (RetSl2 .u64 (pcs 1000000000 (pv 1000000000 a / d)) (pcs 1000000000 (pv 1000000000 a % d)) w) := by
  obtain ⟨A1, ca, rfl, ra⟩ := id hva
  obtain ⟨A2', cb', e', hcb1, hcb2, rb⟩ := id hvb
  injection e' with e1 e2 e3
  subst e1 e3
  clear e2
  obtain ⟨bd, od, rfl, hcd⟩ := rb (by simp)
  obtain ⟨hca1, hca2, ra⟩ := ra
  have hne : a ≠ [] := by intro e; subst e; simp [pv] at h; omega
  obtain ⟨ba, oa, rfl, hcA⟩ := ra hne
  have hz0 : 0 < a.length ∧ Bel 1000000000 a := ⟨by cases a with | nil => exact absurd rfl hne | cons x r => simp, ha.bel⟩
  have hcd0 : w.cell? ⟨bd, od, none⟩ = some (.int .u64 (d : Int)) := by simpa using hcd 0 (by simp)
  have hbd : bd < w.heap.size := World.block_lt_of_cell? w _ hcd0
  have hba : ba < w.heap.size := World.block_lt_of_cell? w _ (hcA 0 (by omega))
  obtain ⟨i0, hi, hzz0, hzz1, hzz2⟩ := info_parts infoU64
  have HA := Lib.hid hva
  have HB := Lib.hid hvb
  have HGA := Lib.hid ha
  have H := Lib.hid h
  have HCA := Lib.hid hcA
  clear hva hvb ha h hcA hcd ra rb
  refine (callsIn_wide (n := 5)).1 ?_
  refine callsIn_of_wp_marks Tryz.func135 rfl trivial ?_ rfl
  simp only [Tryz.ntmps135, List.size_toArray, List.length_cons, List.length_nil, Nat.reduceAdd, Nat.reduceSub, Array.replicate_succ, Array.replicate_zero, List.push_toArray, List.append_toArray, List.nil_append, List.cons_append]
  have hb0 : Below w.heap.size w ((w.alloc (.cells #[.slice (some ⟨bd, od, none⟩) 1 cb] 157)).alloc (.cells #[.slice none 0 0] 157)) := ((Below.refl _ _).alloc (Nat.le_refl _) _).alloc (by simp) _
  have HG1 := Lib.hid (show Good 1000000000 [d] from by have := Good_pcs (B := 1000000000) (by decide) d; rwa [← ptrim_single (by decide) hdB, ptrim_of_Tr _ (by simp [Tr]; omega)] at this)
  have bB0 := (Boxed.new w 157 (.slice (some ⟨bd, od, none⟩) 1 cb)).alloc (.cells #[.slice none 0 0] 157)
  have bQ0 := Boxed.new (w.alloc (.cells #[.slice (some ⟨bd, od, none⟩) 1 cb] 157)) 157 (.slice none 0 0)
  rw [World.size_alloc] at bQ0
  have hmk := make_run 157 165 .u64 8 Tryz.underlying157 infoU64 a.length (by omega) (by omega)
  gi_wp2_with (first
    | (refine ⟨trivial, ?_⟩; gi_at_call 150; refine (callsIn_wide.2 (order_ge a [d] _ _ _ HGA.out HG1.out (HA.out.below hb0) (HB.out.below hb0) (by have := H.out; simpa [pv] using this))).mono ?_; rintro e w1 ⟨r, hr1, hr2, rfl, hb1⟩; have bB1 := bB0.below hb1; have bQ1 := bQ0.below hb1; have hb01 := below_trans hb0 hb1; have hz : w.heap.size + 1 < w1.heap.size := (by have := hb1.size; simp at this; omega); have hz' : w.heap.size < w1.heap.size := (by omega); have c1 := bB1.cell; have c2 := bQ1.cell; have c3 := bQ1.frozen)
    | (refine ⟨trivial, ?_⟩; gi_at_call 170; refine (back_in Fence.wide _ trivial rfl _ _ _ _).mono ?_; rintro e w' ⟨rfl, rfl⟩))
  have hb2 : Below w.heap.size w (w1.setCell ⟨w.heap.size + 1, 0, none⟩ (.slice (some ⟨w1.heap.size, 0, none⟩) a.length a.length)) := hb01.setCell (p := ⟨w.heap.size + 1, 0, none⟩) (Nat.le_succ _) _
  have bB2 := bB1.kept (grownBy_setCell' w1 (w.heap.size + 1) (.slice (some ⟨w1.heap.size, 0, none⟩) a.length a.length)) (by simp)
  have bQ2 := bQ1.set (.slice (some ⟨w1.heap.size, 0, none⟩) a.length a.length)
  have hz2 : (w1.setCell ⟨w.heap.size + 1, 0, none⟩ (.slice (some ⟨w1.heap.size, 0, none⟩) a.length a.length)).heap.size = w1.heap.size := by simp
  generalize hW2 : w1.setCell ⟨w.heap.size + 1, 0, none⟩ (.slice (some ⟨w1.heap.size, 0, none⟩) a.length a.length) = W2 at hb2 bB2 bQ2 hz2
  have rG := Rw_made .u64 165 W2 w.heap.size a.length (by omega) (by omega)
  have hb3 := hb2.alloc (by omega) (.cells (nu .u64 (List.replicate a.length 0)).toArray 165)
  have bB3 := bB2.alloc (.cells (nu .u64 (List.replicate a.length 0)).toArray 165)
  have bQ3 := bQ2.alloc (.cells (nu .u64 (List.replicate a.length 0)).toArray 165)
  have hz3 : (W2.alloc (.cells (nu .u64 (List.replicate a.length 0)).toArray 165)).heap.size = w1.heap.size + 1 := by simp [hz2]
  rw [hz2] at rG
  generalize W2.alloc (.cells (nu .u64 (List.replicate a.length 0)).toArray 165) = W3 at hb3 bB3 bQ3 rG hz3
  have bR4 := Boxed.new W3 165 (.int .u64 0)
  have hb4 := hb3.alloc (by omega) (.cells #[.int .u64 0] 165)
  have bB4 := bB3.alloc (.cells #[.int .u64 0] 165)
  have bQ4 := bQ3.alloc (.cells #[.int .u64 0] 165)
  have rG4 := rG.kept (World.grownBy_alloc W3 (.cells #[.int .u64 0] 165) none) (by simp)
  have hz4 : (W3.alloc (.cells #[.int .u64 0] 165)).heap.size = w1.heap.size + 1 + 1 := by simp [hz3]
  rw [hz3] at bR4
  generalize W3.alloc (.cells #[.int .u64 0] 165) = W4 at hb4 bB4 bQ4 rG4 hz4 bR4
  have bK5 := Boxed.new W4 157 (.slice (some ⟨ba, oa, none⟩) a.length ca)
  have hb5 := hb4.alloc (by omega) (.cells #[.slice (some ⟨ba, oa, none⟩) a.length ca] 157)
  have bB5 := bB4.alloc (.cells #[.slice (some ⟨ba, oa, none⟩) a.length ca] 157)
  have bQ5 := bQ4.alloc (.cells #[.slice (some ⟨ba, oa, none⟩) a.length ca] 157)
  have bR5 := bR4.alloc (.cells #[.slice (some ⟨ba, oa, none⟩) a.length ca] 157)
  have rG5 := rG4.kept (World.grownBy_alloc W4 (.cells #[.slice (some ⟨ba, oa, none⟩) a.length ca] 157) none) (by simp)
  have hz5 : (W4.alloc (.cells #[.slice (some ⟨ba, oa, none⟩) a.length ca] 157)).heap.size = w1.heap.size + 1 + 1 + 1 := by simp [hz4]
  rw [hz4] at bK5
  generalize W4.alloc (.cells #[.slice (some ⟨ba, oa, none⟩) a.length ca] 157) = W5 at hb5 bB5 bQ5 rG5 hz5 bR5 bK5
  clear hb4 bB4 bQ4 rG4 hz4 bR4 hb3 bB3 bQ3 rG hz3 hb2 bB2 bQ2 hz2 hW2 bB1 bQ1 bB0 bQ0 hmk c1 c2 c3 hb1 hb0
  clear W2 W3 W4
  have hCA5 := (HCA.out).below (k := .u64) (w1 := W5) ⟨hb5.os, hb5.tape, hb5.output, hb5.size, hb5.block⟩
  have HCA5 := Lib.hid hCA5
  clear hCA5
  refine wpIn_rangeFunc_ownG rfl (by decide) (gf := 192) (lb := #[.pointer (some ⟨w1.heap.size + 1 + 1, 0, none⟩)]) rfl trivial (enters_of Tryz.func192 (by kernel_rfl) rfl)
    (back_stops Fence.wide _ trivial rfl (by decide) (w1.heap.size + 1 + 1) w.heap.size ba oa ca a (by omega) W5 hba bK5 HCA5.out hz0) KB.trans (KB.putObj (by omega)) (Below.refl _ _) (fun _ => rfl)
    (fun pre W => (Boxed W w.heap.size 157 (.slice (some ⟨bd, od, none⟩) 1 cb) ∧ Boxed W (w.heap.size + 1) 157 (.slice (some ⟨w1.heap.size, 0, none⟩) a.length a.length) ∧ Boxed W (w1.heap.size + 1) 165 (.int .u64 ((sst d a.length pre).2 : Nat)) ∧ Rw .u64 165 w.heap.size w1.heap.size a.length (sst d a.length pre).1 W) ∧ Below w.heap.size w W)
    (fun _ _ _ => False)
    (OwnFrom.and (Own.from (fun s A B row hs hg hr => ⟨hs.1.kept hg (boxed_hr hs.1 hr), hs.2.1.kept hg (boxed_hr hs.2.1 hr), hs.2.2.1.kept hg (boxed_hr hs.2.2.1 hr), hs.2.2.2.kept hg (rw_hr hs.2.2.2 hr)⟩) _) (ownFrom_below (Nat.le_refl _) (by omega)))
    (fun _ _ _ _ _ hs _ _ => hs)
    ⟨⟨bB5, bQ5, bR5, rG5⟩, hb5⟩
    (fun x => { tmps := #[(.slice (some ⟨ba, oa, none⟩) a.length ca), (.slice (some ⟨bd, od, none⟩) 1 cb), undef, (.pointer (some ⟨w.heap.size, 0, none⟩)), (.pointer (some ⟨w.heap.size + 1, 0, none⟩)), (.slice none 0 0), (.pointer (some ⟨w1.heap.size + 1, 0, none⟩)), (.int .i64 (x.1.1 : Int)), (.int .u64 (x.1.2 : Int)), undef, undef, undef, undef, undef, (.slice (some ⟨ba, oa, none⟩) a.length ca), (.slice (some ⟨bd, od, none⟩) 1 cb), (.int .i64 r), (.bool (decide (r < 0))), undef, (.slice (some ⟨bd, od, none⟩) 1 cb), (.int .i64 1), (.bool true), (.slice (some ⟨ba, oa, none⟩) a.length ca), (.int .i64 a.length), (.slice (some ⟨w1.heap.size, 0, none⟩) a.length a.length), (.slice (some ⟨ba, oa, none⟩) a.length ca), (.func (.func 192) #[] #[.pointer (some ⟨w1.heap.size + 1 + 1, 0, none⟩)]), (.int .i64 (x.1.1 : Int)), (.int .u64 (x.1.2 : Int)), undef, undef, undef, undef, undef, undef, undef, undef, undef, undef, undef, undef, undef, undef, undef, undef, undef, undef, undef, undef, undef, undef, undef, undef, undef, undef, undef, undef, undef, undef, undef, undef, undef, undef, undef, undef, undef, undef, undef, undef, undef, undef, undef, undef, undef, undef, undef, undef, undef, undef, undef, undef, undef, undef, undef, undef, undef, undef, undef, undef, undef, undef, undef, undef, undef, undef, undef, undef, undef, undef, undef, undef, undef, undef, undef, undef, undef, undef, undef, undef, undef, undef, undef, undef, undef, undef, undef, undef, undef, undef, undef, undef, undef, undef, undef, undef, undef, undef, undef, undef, undef, undef, undef, undef, undef, undef, undef, undef, undef, undef, undef, undef, undef, undef, undef, undef, undef], defers := [] }) ?assign ?body ?done ?stop
  case assign =>
    intro l x W K hK
    gi_wp2
    exact hK
  case body =>
    rintro l pre ⟨⟨i, v⟩, hi1, hi2⟩ W ⟨⟨iB, iQ, iR, iG⟩, hB⟩ _
    have hr0 := sst_lt d a.length hd0 pre
    have HSN := Lib.hid (sst_snoc d a.length pre ⟨(i, v), hi1, hi2⟩)
    generalize hst : sst d a.length pre = st at iR iG hr0 HSN
    obtain ⟨q, r0⟩ := st
    clear hst
    dsimp only at iR iG hr0 hi1 hi2 ⊢
    have f1 := iB.cell
    have f2 := iQ.cell
    have f3 := iR.cell
    have f4 := iR.frozen
    have f5 := iG.cell hi1
    have f6 := iG.frozen i
    have f7 : W.cell? ⟨bd, od, none⟩ = some (.int .u64 (d : Int)) := (hB.cell (p := ⟨bd, od, none⟩) hbd).trans hcd0
    have hmul : r0 * 1000000000 < 1000000000000000000 := by omega
    have HE1 := Lib.hid (quo_u64 (x := r0 * 1000000000 + v) (d := d) (bound_u64 hr0 hdB hi2))
    have HE2 := Lib.hid (rem_u64 (x := r0 * 1000000000 + v) (d := d))
    have hd1 : ¬ d = 0 := by omega
    generalize q.getD i 0 = q0 at f5
    gi_wp2
    have j1 := iB.kept (grownBy_setCell' W (w1.heap.size + 1) (.int .u64 ((r0 : Int) * 1000000000 + (v : Int)))) (by simp; omega)
    have j2 := iQ.kept (grownBy_setCell' W (w1.heap.size + 1) (.int .u64 ((r0 : Int) * 1000000000 + (v : Int)))) (by simp; omega)
    have j3 := iR.set (.int .u64 ((r0 : Int) * 1000000000 + (v : Int)))
    have j4 := iG.kept (grownBy_setCell' W (w1.heap.size + 1) (.int .u64 ((r0 : Int) * 1000000000 + (v : Int)))) (by simp)
    have j5 := hB.setCell (p := ⟨w1.heap.size + 1, 0, none⟩) (by simp; omega) (.int .u64 ((r0 : Int) * 1000000000 + (v : Int)))
    have j6 := (KeepsOthers.setCell W ⟨w1.heap.size + 1, 0, none⟩ (.int .u64 ((r0 : Int) * 1000000000 + (v : Int)))).from W5.heap.size
    have j7 : KB w.heap.size (w1.heap.size + 1 + 1) W _ := ⟨(Below.refl w.heap.size W).setCell (p := ⟨w1.heap.size + 1, 0, none⟩) (by simp; omega) (.int .u64 ((r0 : Int) * 1000000000 + (v : Int))), fun v' hv' => hv'.kept (grownBy_setCell' W (w1.heap.size + 1) _) (by simp)⟩
    generalize W.setCell ⟨w1.heap.size + 1, 0, none⟩ (.int .u64 ((r0 : Int) * 1000000000 + (v : Int))) = W6 at j1 j2 j3 j4 j5 j6 j7 ⊢
    have k1 := j1.cell
    have k2 := j2.cell
    have k3 : W6.cell? ⟨bd, od, none⟩ = some (.int .u64 (d : Int)) := (j5.cell (p := ⟨bd, od, none⟩) hbd).trans hcd0
    have k4 := j3.cell
    have k5 := j3.frozen
    have k6 := j4.frozen i
    have k7 := j4.cell hi1
    have K4 := Lib.hid j4
    generalize q.getD i 0 = q1 at k7
    clear f1 f2 f3 f4 f5 f6 f7
    refine regionIn_held 14 (fun W' => W'.cell? ⟨w.heap.size, 0, none⟩ = some (.slice (some ⟨bd, od, none⟩) 1 cb) ∧ W'.cell? ⟨w.heap.size + 1, 0, none⟩ = some (.slice (some ⟨w1.heap.size, 0, none⟩) a.length a.length) ∧ W'.cell? ⟨bd, od, none⟩ = some (.int .u64 (d : Int)) ∧ W'.cell? ⟨w1.heap.size + 1, 0, none⟩ = some (.int .u64 ((r0 : Int) * 1000000000 + (v : Int))) ∧ W'.frozen? ⟨w1.heap.size + 1, 0, none⟩ = false ∧ W'.frozen? ⟨w1.heap.size, i, none⟩ = false ∧ (∃ c0 : Nat, W'.cell? ⟨w1.heap.size, i, none⟩ = some (.int .u64 (c0 : Int))) ∧ True) (by kernel_rfl) (by decide) ?hL ?_
    case hL => rintro ⟨a', w', h⟩; exact h
    have hT0 : W6.drew.cell? ⟨w.heap.size, 0, none⟩ = some (.slice (some ⟨bd, od, none⟩) 1 cb) ∧ W6.drew.cell? ⟨w.heap.size + 1, 0, none⟩ = some (.slice (some ⟨w1.heap.size, 0, none⟩) a.length a.length) ∧ W6.drew.cell? ⟨bd, od, none⟩ = some (.int .u64 (d : Int)) ∧ W6.drew.cell? ⟨w1.heap.size + 1, 0, none⟩ = some (.int .u64 ((r0 : Int) * 1000000000 + (v : Int))) ∧ W6.drew.frozen? ⟨w1.heap.size + 1, 0, none⟩ = false ∧ W6.drew.frozen? ⟨w1.heap.size, i, none⟩ = false ∧ (∃ c0 : Nat, W6.drew.cell? ⟨w1.heap.size, i, none⟩ = some (.int .u64 (c0 : Int))) ∧ True := ⟨k1, k2, k3, k4, k5, k6, ⟨_, k7⟩, trivial⟩
    clear k1 k2 k3 k4 k5 k6 k7
    have hE1 := HE1.out
    have hE2 := HE2.out
    rw [show ((r0 * 1000000000 + v : Nat) : Int) = (r0 : Int) * 1000000000 + (v : Int) by simp] at hE1 hE2
    refine anyZ_take (i := 0) (v := (.slice (some ⟨w1.heap.size, 0, none⟩) a.length a.length)) rfl rfl (by kernel_rfl) (by kernel_rfl) (by kernel_rfl) (by kernel_rfl) (fun _ _ _ h => h) hT0 (fun _ => Or.inl ⟨by rfl, fun W' ⟨t1, t2, t3, t4, t5, t6, t7, t8⟩ => by go_simp⟩) ?_
    refine anyZ_take (i := 1) (v := (.int .i64 (i : Int))) rfl rfl (by kernel_rfl) (by kernel_rfl) (by kernel_rfl) (by kernel_rfl) (fun _ _ _ h => h) hT0 (fun _ => Or.inl ⟨by rfl, fun W' ⟨t1, t2, t3, t4, t5, t6, t7, t8⟩ => by go_simp⟩) ?_
    refine anyZ_take (i := 2) (v := (.int .u64 ((r0 : Int) * 1000000000 + (v : Int)))) rfl rfl (by kernel_rfl) (by kernel_rfl) (by kernel_rfl) (by kernel_rfl) (fun _ _ _ h => h) hT0 (fun _ => Or.inl ⟨by rfl, fun W' ⟨t1, t2, t3, t4, t5, t6, t7, t8⟩ => by go_simp⟩) ?_
    refine anyZ_take (i := 3) (v := (.slice (some ⟨bd, od, none⟩) 1 cb)) rfl rfl (by kernel_rfl) (by kernel_rfl) (by kernel_rfl) (by kernel_rfl) (fun _ _ _ h => h) hT0 (fun _ => Or.inl ⟨by rfl, fun W' ⟨t1, t2, t3, t4, t5, t6, t7, t8⟩ => by go_simp⟩) ?_
    refine anyZ_take (i := 4) (v := (.pointer (some ⟨bd, od, none⟩))) rfl rfl (by kernel_rfl) (by kernel_rfl) (by kernel_rfl) (by kernel_rfl) (fun _ _ _ h => h) hT0 (fun _ => Or.inl ⟨by rfl, fun W' ⟨t1, t2, t3, t4, t5, t6, t7, t8⟩ => by go_simp⟩) ?_
    refine anyZ_take (i := 5) (v := (.int .u64 (d : Int))) rfl rfl (by kernel_rfl) (by kernel_rfl) (by kernel_rfl) (by kernel_rfl) (fun _ _ _ h => h) hT0 (fun _ => Or.inl ⟨by rfl, fun W' ⟨t1, t2, t3, t4, t5, t6, t7, t8⟩ => by go_simp⟩) ?_
    refine anyZ_take (i := 6) (v := (.int .u64 (((r0 : Int) * 1000000000 + (v : Int)) / (d : Int)))) rfl rfl (by kernel_rfl) (by kernel_rfl) (by kernel_rfl) (by kernel_rfl) (fun _ _ _ h => h) hT0 (fun _ => Or.inl ⟨by rfl, fun W' ⟨t1, t2, t3, t4, t5, t6, t7, t8⟩ => by go_simp⟩) ?_
    refine anyZ_take (i := 7) (v := (.int .u64 ((r0 : Int) * 1000000000 + (v : Int)))) rfl rfl (by kernel_rfl) (by kernel_rfl) (by kernel_rfl) (by kernel_rfl) (fun _ _ _ h => h) hT0 (fun _ => Or.inl ⟨by rfl, fun W' ⟨t1, t2, t3, t4, t5, t6, t7, t8⟩ => by go_simp⟩) ?_
    refine anyZ_take (i := 8) (v := (.slice (some ⟨bd, od, none⟩) 1 cb)) rfl rfl (by kernel_rfl) (by kernel_rfl) (by kernel_rfl) (by kernel_rfl) (fun _ _ _ h => h) hT0 (fun _ => Or.inl ⟨by rfl, fun W' ⟨t1, t2, t3, t4, t5, t6, t7, t8⟩ => by go_simp⟩) ?_
    refine anyZ_take (i := 9) (v := (.pointer (some ⟨bd, od, none⟩))) rfl rfl (by kernel_rfl) (by kernel_rfl) (by kernel_rfl) (by kernel_rfl) (fun _ _ _ h => h) hT0 (fun _ => Or.inl ⟨by rfl, fun W' ⟨t1, t2, t3, t4, t5, t6, t7, t8⟩ => by go_simp⟩) ?_
    refine anyZ_take (i := 10) (v := (.int .u64 (d : Int))) rfl rfl (by kernel_rfl) (by kernel_rfl) (by kernel_rfl) (by kernel_rfl) (fun _ _ _ h => h) hT0 (fun _ => Or.inl ⟨by rfl, fun W' ⟨t1, t2, t3, t4, t5, t6, t7, t8⟩ => by go_simp⟩) ?_
    refine anyZ_take (i := 11) (v := (.int .u64 (((r0 : Int) * 1000000000 + (v : Int)) % (d : Int)))) rfl rfl (by kernel_rfl) (by kernel_rfl) (by kernel_rfl) (by kernel_rfl) (fun _ _ _ h => h) hT0 (fun _ => Or.inl ⟨by rfl, fun W' ⟨t1, t2, t3, t4, t5, t6, t7, t8⟩ => by go_simp⟩) ?_
    refine anyZ_take (i := 12) (v := (.pointer (some ⟨w1.heap.size, i, none⟩))) rfl rfl (by kernel_rfl) (by kernel_rfl) (by kernel_rfl) (by kernel_rfl) (fun _ _ _ h => h) hT0 (fun _ => Or.inl ⟨by rfl, fun W' ⟨t1, t2, t3, t4, t5, t6, t7, t8⟩ => by go_simp⟩) ?_
    obtain ⟨t1, t2, t3, t4, t5, t6, ⟨c0, t7⟩, -⟩ := hT0
    refine anyZ_one (i := 13) (by kernel_rfl) rfl (fun K hK => ?_)
    go_simp
    have m1 := j1.kept (grownBy_setCell2 W6 w1.heap.size i (.int .u64 (((r0 : Int) * 1000000000 + (v : Int)) / (d : Int)))) (by simp; omega)
    have m2 := j2.kept (grownBy_setCell2 W6 w1.heap.size i (.int .u64 (((r0 : Int) * 1000000000 + (v : Int)) / (d : Int)))) (by simp; omega)
    have m3 := j3.kept (grownBy_setCell2 W6 w1.heap.size i (.int .u64 (((r0 : Int) * 1000000000 + (v : Int)) / (d : Int)))) (by simp)
    have m4 := K4.out.store' i ((r0 * 1000000000 + v) / d) (((r0 : Int) * 1000000000 + (v : Int)) / (d : Int)) (by simp)
    have m5 := j5.setCell (p := ⟨w1.heap.size, i, none⟩) (by simp; omega) (.int .u64 (((r0 : Int) * 1000000000 + (v : Int)) / (d : Int)))
    have m6 := j6.trans ((KeepsOthers.setCell W6 ⟨w1.heap.size, i, none⟩ (.int .u64 (((r0 : Int) * 1000000000 + (v : Int)) / (d : Int)))).from W5.heap.size)
    have m7 : KB w.heap.size (w1.heap.size + 1 + 1) W (W6.setCell ⟨w1.heap.size, i, none⟩ (.int .u64 (((r0 : Int) * 1000000000 + (v : Int)) / (d : Int)))) := j7.trans ⟨(Below.refl w.heap.size W6).setCell (p := ⟨w1.heap.size, i, none⟩) (by simp; omega) _, fun v' hv' => hv'.kept (grownBy_setCell2 W6 w1.heap.size i _) (by simp; omega)⟩
    generalize W6.setCell ⟨w1.heap.size, i, none⟩ (.int .u64 (((r0 : Int) * 1000000000 + (v : Int)) / (d : Int))) = W7 at m1 m2 m3 m4 m5 m6 m7 ⊢
    have n1 : W7.drew.cell? ⟨w1.heap.size + 1, 0, none⟩ = _ := m3.cell
    have n2 : W7.drew.frozen? ⟨w1.heap.size + 1, 0, none⟩ = false := m3.frozen
    refine hK _ _ ⟨.inr ⟨m1.cell, m2.cell, (m5.cell (p := ⟨bd, od, none⟩) hbd).trans hcd0, m3.cell, m3.frozen, m4.frozen i, ⟨_, m4.cell hi1⟩, trivial⟩, ?_⟩
    clear hK K t1 t2 t3 t4 t5 t6 t7
    generalize hnv : ((r0 : Int) * 1000000000 + (v : Int)) % (d : Int) = nv
    refine anyZ_one (i := 14) (by kernel_rfl) rfl (fun K hK => ?_)
    rw [if_pos (by rfl)]
    refine store_one 165 _ _ rfl (size244 _) ⟨w1.heap.size + 1, 0, none⟩ .u64 nv _ rfl rfl n1 n2 ?_
    rw [World.setCell_drew]
    have o1 := m1.kept (grownBy_setCell' W7 (w1.heap.size + 1) (.int .u64 nv)) (by simp; omega)
    have o2 := m2.kept (grownBy_setCell' W7 (w1.heap.size + 1) (.int .u64 nv)) (by simp; omega)
    have o3 := m3.set (.int .u64 nv)
    have o4 := m4.kept (grownBy_setCell' W7 (w1.heap.size + 1) (.int .u64 nv)) (by simp)
    have o5 := m5.setCell (p := ⟨w1.heap.size + 1, 0, none⟩) (by simp; omega) (.int .u64 nv)
    have o6 := m6.trans ((KeepsOthers.setCell W7 ⟨w1.heap.size + 1, 0, none⟩ (.int .u64 nv)).from W5.heap.size)
    have o7 : KB w.heap.size (w1.heap.size + 1 + 1) W (W7.setCell ⟨w1.heap.size + 1, 0, none⟩ (.int .u64 nv)) := m7.trans ⟨(Below.refl w.heap.size W7).setCell (p := ⟨w1.heap.size + 1, 0, none⟩) (by simp; omega) _, fun v' hv' => hv'.kept (grownBy_setCell' W7 (w1.heap.size + 1) _) (by simp)⟩
    generalize W7.setCell ⟨w1.heap.size + 1, 0, none⟩ (.int .u64 nv) = W8 at o1 o2 o3 o4 o5 o6 o7 ⊢
    have q1 : KeepsFrom W5.heap.size W W8.drew := ⟨o6.size, o6.same⟩
    have q2 : KB w.heap.size (w1.heap.size + 1 + 1) W W8.drew := o7.trans ⟨(Below.refl _ _).drew, fun v' hv' => hv'⟩
    have q3 : Boxed W8.drew w.heap.size 157 (.slice (some ⟨bd, od, none⟩) 1 cb) := o1
    have q4 : Boxed W8.drew (w.heap.size + 1) 157 (.slice (some ⟨w1.heap.size, 0, none⟩) a.length a.length) := o2
    have q5 : Boxed W8.drew (w1.heap.size + 1) 165 (.int .u64 ((sst d a.length (pre ++ [⟨(i, v), hi1, hi2⟩])).2 : Nat)) := by
      have := HSN.out
      rw [this]
      have o3' : Boxed W8.drew (w1.heap.size + 1) 165 (.int .u64 nv) := o3
      rw [← hnv] at o3'
      simpa using o3'
    have q6 : Rw .u64 165 w.heap.size w1.heap.size a.length (sst d a.length (pre ++ [⟨(i, v), hi1, hi2⟩])).1 W8.drew := by
      have := HSN.out
      rw [this]; exact ⟨o4.len, o4.own⟩
    have q7 : Below w.heap.size w W8.drew := o5.drew
    clear o1 o2 o3 o4 o5 o6 o7
    generalize W8.drew = W9 at *
    exact hK _ _ ⟨.inl rfl, anyZ_done (by kernel_rfl) ⟨q1, q2, ⟨q3, q4, q5, q6⟩, q7⟩ _⟩
  case done =>
    rintro D ys W hD rfl ⟨⟨iB, iQ, iR, iG⟩, hB⟩ hK
    have hend := sst_at hz0 hd0 (by omega) a.length (Nat.le_refl _)
    rw [Nat.sub_self] at hend
    obtain ⟨hq, hr⟩ := hend.done (by decide)
    have HQ := Lib.hid hq
    have HR := Lib.hid hr
    have hr1 := sst_lt d a.length hd0 (upto (bks a hz0) a.length)
    generalize sst d a.length (upto (bks a hz0) a.length) = st at iR iG HQ HR hr1
    obtain ⟨q, r0⟩ := st
    clear hq hr hend
    dsimp only at iR iG HQ HR hr1
    have f1 := iB.cell
    have f2 := iQ.cell
    have f3 := iR.cell
    have f4 := iQ.frozen
    gi_wp2
    have hs0 := Lib.hid (iG.Sl (by omega))
    have hlq := Lib.hid iG.len
    have z1 := iQ.lt
    have z2 := iR.lt
    have z3 := iB.lt
    have z4 := iG.lt
    refine wpIn_wide.2 (wp_region_noPanic ?_)
    go_region_with (first
      | (go_at_call 169; ((with_reducible refine (trim_at (some ⟨w1.heap.size, 0, none⟩) a.length a.length q _ hlq.out.symm ?_).mono ?_)); (first | exact hs0.out.below (Below.refl _ _).drew | exact hs0.out.below ((Below.refl _ _).alloc (Nat.le_refl _) _).drew); rintro e w' ⟨⟨rfl, hs1⟩, rfl⟩; clear hs1)
      | (go_at_call 169; ((with_reducible refine (trim_at (some ⟨W.heap.size, 0, none⟩) 1 1 [r0] _ rfl ?_).mono ?_)); exact Sl_one .u64 W 165 r0; rintro e w' ⟨⟨rfl, hs2⟩, rfl⟩; clear hs2))
    all_goals refine noPanic_normal ?_
    all_goals gi_wp2
    all_goals
      have r1 := (iQ.set (.slice (some ⟨w1.heap.size, 0, none⟩) (ptrim q).length a.length)).alloc (.cells #[.int .u64 (r0 : Int)] 165)
      have r2 : Below W.heap.size W W.drew := (Below.refl _ _).drew
      have r3 := iG.kept (grownBy_setCell' W (w.heap.size + 1) (.slice (some ⟨w1.heap.size, 0, none⟩) (ptrim q).length a.length)) (by simp; omega)
      have r4 := (r3.kept (World.grownBy_alloc _ (.cells #[.int .u64 (r0 : Int)] 165) none) (by simp)).Sl (by omega)
      have r5 := Sl_one .u64 (W.setCell ⟨w.heap.size + 1, 0, none⟩ (.slice (some ⟨w1.heap.size, 0, none⟩) (ptrim q).length a.length)) 165 r0
      rw [World.size_setCell] at r5
      have r6 := (hB.setCell (p := ⟨w.heap.size + 1, 0, none⟩) (by simp) (.slice (some ⟨w1.heap.size, 0, none⟩) (ptrim q).length a.length)).alloc (by simp; omega) (.cells #[.int .u64 (r0 : Int)] 165)
      have r7 := ((KeepsOthers.setCell W ⟨w.heap.size + 1, 0, none⟩ (.slice (some ⟨w1.heap.size, 0, none⟩) (ptrim q).length a.length)).trans (KeepsOthers.alloc _ (.cells #[.int .u64 (r0 : Int)] 165))).same D _ hK rfl
      generalize (World.alloc _ (.cells #[.int .u64 (r0 : Int)] 165)) = W9 at r1 r4 r5 r6 r7 ⊢
      refine ⟨by simp, .inl ⟨_, _, rfl, run_takeDeferred (show W9.drew.heap[D]? = _ from r7), ?_⟩⟩
      have hg9 := grownBy_putObj' W9.drew D (.deferred none)
      have hr9 : ∀ r, some D = some r → ∃ o : Obj, W9.drew.heap[r]? = some o ∧ o.isCells = false := fun r e => by cases e; exact ⟨_, show W9.drew.heap[D]? = _ from r7, rfl⟩
      have hc5 := cell_kept (show W9.drew.cell? ⟨w.heap.size + 1, 0, none⟩ = _ from r1.cell) hg9 hr9
      have s1 := (Sl_trim' hlq.out.symm (show Sl .u64 W9.drew _ _ from r4)).kept hg9 hr9
      have s2 := (Sl_trim' (n := 1) rfl (show Sl .u64 W9.drew _ _ from r5)).kept hg9 hr9
      have hp9 : ptrim [r0] = pcs 1000000000 (pv 1000000000 a % d) := by rw [ptrim_single (B := 1000000000) (by decide) (by omega), HR.out]
      rw [hp9] at s2 ⊢
      rw [HQ.out] at s1 hc5 ⊢
      have hfin := (show Below w.heap.size w W9.drew from r6.drew).trans (belowK_b (w := w) (Nat.le_refl _) W9.drew D _ (.deferred none) (by omega) (show W9.drew.heap[D]? = _ from r7) rfl rfl)
      refine ⟨.tuple #[.slice (some ⟨w1.heap.size, 0, none⟩) (pcs 1000000000 (pv 1000000000 a / d)).length a.length, .slice (some ⟨W.heap.size, 0, none⟩) (pcs 1000000000 (pv 1000000000 a % d)).length 1], ?_, ⟨_, _, rfl, s1, s2, hfin⟩⟩
      simp [results, Tryz.results135, go_sem, hc5]
  case stop =>
    rintro D c pre W _ _ h _
    exact h.elim
end Go.Proofs.Kl
namespace Go.Proofs.Kl
open Go.RowKit
theorem own_one (k : IntKind) (W : World) (e : TypeId) (d : Nat) : (W.alloc (.cells #[.int k (d : Int)] e)).ownsRow W.heap.size e 1 (.slice (some ⟨W.heap.size, 0, none⟩) 1 1) 1 (nu k [d]) :=
  ⟨by simp [nu], .inr ⟨W.heap.size, 1, _, rfl, Nat.le_refl _, heap_alloc_new W _, Nat.le_refl _, by unfold maxLen; omega, by simp, by simp [nu]⟩⟩
/-- append([]T{x}, r...). -/
theorem app_cons {P : Program} {ops : Array Oper} {rest : List Oper} {o : Oper} {a : Act} {Q : Exit → Act → World → Prop} (W : World) (hg : o.guard = none) (s x : Operand) (t e : TypeId) (kd : IntKind)
    (hop : o.op = Op.call { callee := Callee.builtin Builtin.append, args := #[s, x], argTypes := #[t, t] }) (h1 : P.underlying t = some (.slice e)) (hinfo : (P.info? e).map (fun i => (i.zero, i.size, i.bytes)) = some (some (.int kd 0), 1, 8))
    (d : Nat) (D : Int) (hD : D = (d : Int)) (A : Option Addr) (n c : Nat) (zs : List Nat) (hn : n = zs.length) (hs : a.eval s = .slice (some ⟨W.heap.size, 0, none⟩) 1 1) (hx : a.eval x = .slice A n c) (hr : Sl kd W (.slice A n c) zs) (hl : n ≤ 1000000000)
    (h : ∀ (A' : Option Addr) (n' c' : Nat) (w' : World), n' = zs.length + 1 → Sl kd w' (.slice A' n' c') (d :: zs) → Below W.heap.size W w' → wpList P ops Q rest (a.put o.dst (.slice A' n' c')) w') :
    wpList P ops Q (o :: rest) a (W.alloc (.cells #[.int kd D] e)) := by
  subst hD
  have hbl : Below W.heap.size W (W.alloc (.cells #[.int kd (d : Int)] e)) := (Below.refl _ _).alloc (Nat.le_refl _) _
  obtain ⟨i0, hi, hz0, hz1, hz2⟩ := info_parts hinfo
  obtain ⟨A', c', e', ⟨hc1, hc2⟩, hc3, hc4⟩ := hr
  injection e' with i1 i2 i3
  subst i1 i3
  clear i2
  subst hn
  cases A with
  | none =>
    have h0 : zs = [] := by
      rcases zs with _ | ⟨z, r⟩
      · rfl
      · obtain ⟨b, off, e, _⟩ := hc4 (by simp); cases e
    subst h0
    obtain rfl := hc2 rfl
    refine wpList_append_own_none hg s x t hop W.heap.size e i0 1 h1 hi _ 1 _ hs (own_one kd W e d) hx ?_
    refine h _ 1 1 _ rfl ?_ hbl
    exact Sl_own' (by simp) (own_one kd W e d) (by omega)
  | some ad =>
    refine wpList_append_own (W.alloc (.cells #[.int kd (d : Int)] e)) hg s x t hop W.heap.size e i0 (.int kd 0) 1 8 h1 hi hz0 hz1 hz2 rfl (by decide) _ 1 _ hs (own_one kd W e d) ad zs.length c (nu kd zs) hx (by simp [nu]) ?_ (by intro u hu; simp [nu] at hu; obtain ⟨q, _, rfl⟩ := hu; rfl) (by unfold maxLen; omega) (by omega) (by simp) ?_
    · intro j u hj
      have hlt : j < zs.length := by have := (List.getElem?_eq_some_iff.1 hj).1; simpa [nu] using this
      obtain ⟨b, off, e, hcs⟩ := hc4 (by intro e; subst e; simp at hlt)
      injection e with e
      subst e
      rw [nu_get kd zs j hlt] at hj
      injection hj with hj
      subst hj
      have := cell_below hbl (hcs j hlt)
      have ha : (⟨b, off, none⟩ : Addr).add j = ⟨b, off + j, none⟩ := by unfold Addr.add; split <;> simp_all
      rw [ha]; exact this
    · intro v' w' ho hgr hnone
      have hl1 : (d :: zs).length = 1 + zs.length := by simp; omega
      have hsl : Sl kd w' v' (d :: zs) := by
        have ho' : w'.ownsRow W.heap.size e 1 v' (d :: zs).length (nu kd (d :: zs)) := by rw [hl1]; simpa [nu] using ho
        exact Sl_own ho' (by rw [hl1]; omega)
      obtain ⟨A', c', e2, -⟩ := id hsl
      subst e2
      exact h A' _ c' w' (by simp) hsl (hbl.grown hgr (by simp) (fun k hk => by cases hk; exact Nat.le_refl _))
theorem div_pow_lt {B n k : Nat} (hB : 0 < B) (h : n < B ^ (k + 1)) : n / B ^ k < B :=
  (Nat.div_lt_iff_lt_mul (Nat.pow_pos hB)).2 (by rw [Nat.mul_comm, ← Nat.pow_succ]; exact h)
theorem top_one {B n k : Nat} (hB : 1 < B) (h : n < B ^ (k + 1)) : (pcs B n).getD k 0 = n / B ^ k := by
  rw [pcs_getD hB, Nat.mod_eq_of_lt (div_pow_lt (by omega) h)]
theorem top_two {B n k : Nat} (hB : 1 < B) (h : n < B ^ (k + 2)) : (pcs B n).getD (k + 1) 0 * B + (pcs B n).getD k 0 = n / B ^ k := by
  rw [pcs_getD hB, pcs_getD hB, Nat.mod_eq_of_lt (div_pow_lt (k := k + 1) (by omega) h), Nat.pow_succ, ← Nat.div_div_eq_div_mul]
  have := Nat.mod_add_div (n / B ^ k) B
  rw [Nat.mul_comm B] at this; omega
theorem mul_pred {y d : Nat} (_h : 1 ≤ d) : y * d - y = y * (d - 1) := by rw [Nat.mul_sub, Nat.mul_one]
theorem div_pred {n y d : Nat} (h : n / y ≤ d) (hgt : n < y * d) : n / y ≤ d - 1 := by
  have hy : 0 < y := by
    rcases Nat.eq_zero_or_pos y with e | e
    · subst e; simp at hgt
    · exact e
  have : n / y < d := (Nat.div_lt_iff_lt_mul hy).2 (by rw [Nat.mul_comm]; exact hgt)
  omega
theorem div_exact {n y d : Nat} (h : n / y ≤ d) (hy : 0 < y) (hle : y * d ≤ n) : d * y ≤ n ∧ n < (d + 1) * y := by
  have h1 : d ≤ n / y := (Nat.le_div_iff_mul_le hy).2 (by rw [Nat.mul_comm]; exact hle)
  have e : n / y = d := by omega
  refine ⟨by rw [Nat.mul_comm]; exact hle, ?_⟩
  have := Nat.lt_div_mul_add (a := n) hy
  rw [e] at this
  rw [Nat.add_mul, Nat.one_mul]; exact this
end Go.Proofs.Kl
namespace Go.Proofs.Kl
open Go.RowKit Go.Shelf

theorem Sl.len_le {k : IntKind} {w : World} {v : Value} {zs : List Nat} (h : Sl k w v zs) : zs.length ≤ 1000000000000 := by obtain ⟨_, _, _, _, h, _⟩ := h; exact h
theorem pcs_ne {B n : Nat} (hB : 2 ≤ B) (h : 0 < n) : pcs B n ≠ [] := by rw [pcs_pos hB (by omega)]; simp
theorem top_of {b : List Nat} (hb : Good 1000000000 b) (h : 2 ≤ b.length) : 1 ≤ b.getD (b.length - 1) 0 ∧ b.getD (b.length - 1) 0 < 1000000000 := by
  have h2 := getD_lt (by decide) hb.bel (b.length - 1)
  rcases snoc_cases b with e | ⟨m, x, e⟩
  · subst e; simp at h
  · subst e
    have := (Good_snoc.1 hb).2.2
    simp [List.getD] at *; omega

theorem divide_one (a : List Nat) (d : Nat) (va : Value) (A2 : Option Addr) (cb : Nat) (w : World) (ha : Good 1000000000 a) (hd0 : 0 < d) (hdB : d < 1000000000) (hva : Sl .u64 w va a) (hvb : Sl .u64 w (.slice A2 1 cb) [d]) (hla : a.length < 1000000000) :
    Calls Tryz.prog 135 #[va, .slice A2 1 cb] w (RetSl2 .u64 (pcs 1000000000 (pv 1000000000 a / d)) (pcs 1000000000 (pv 1000000000 a % d)) w) := by
  rcases Nat.lt_or_ge (pv 1000000000 a) d with h | h
  · have hp : pv 1000000000 [d] = d := by simp [pv]
    have hg1 : Good 1000000000 [d] := by have := Good_pcs (B := 1000000000) (by decide) d; rwa [← ptrim_single (by decide) hdB, ptrim_of_Tr _ (by simp [Tr]; omega)] at this
    have := divide_less a [d] va _ w ha hg1 hva hvb (by rw [hp]; exact h)
    rw [Nat.div_eq_of_lt h, Nat.mod_eq_of_lt h, pcs_zero, pcs_pv (by decide) ha]
    exact this
  · exact divide_short a d va A2 cb w ha hd0 hdB hva hvb h hla
theorem Sl.setBox {k : IntKind} {W : World} {v : Value} {zs : List Nat} {B : Nat} {t : TypeId} {A : Option Addr} {n c : Nat} (hs : Sl k W v zs) (hb : Boxed W B t (.slice A n c)) (u : Value) : Sl k (W.setCell ⟨B, 0, none⟩ u) v zs := by
  obtain ⟨A', c', e, h1, h2, h3⟩ := hs
  refine ⟨A', c', e, h1, h2, fun hz => ?_⟩
  obtain ⟨b, off, e2, h4⟩ := h3 hz
  refine ⟨b, off, e2, fun j hj => ?_⟩
  have h5 := h4 j hj
  rw [World.cell?_setCell_other _ _ _ _ ?_]
  · exact h5
  · intro e
    rw [← e, hb.cell] at h5
    cases h5
set_option maxHeartbeats 4000000 in
set_option maxRecDepth 100000 in
theorem divide_long (a b : List Nat) (va vb : Value) (w : World) (ha : Good 1000000000 a) (hb : Good 1000000000 b) (hva : Sl .u64 w va a) (hvb : Sl .u64 w vb b) (h : pv 1000000000 b ≤ pv 1000000000 a) (hla : a.length < 100000000) (hlb : b.length < 100000000) (h2 : 2 ≤ b.length) :
    Calls Tryz.prog 135 #[va, vb] w (RetSl2 .u64 (pcs 1000000000 (pv 1000000000 a / pv 1000000000 b)) (pcs 1000000000 (pv 1000000000 a % pv 1000000000 b)) w) := by
  obtain ⟨A1, ca, rfl, -⟩ := id hva
  obtain ⟨A2, cb, rfl, hcb1, hcb2, rb⟩ := id hvb
  obtain ⟨bb, ob, rfl, hcB⟩ := rb (by intro e; subst e; simp at h2)
  have hbb : bb < w.heap.size := World.block_lt_of_cell? w _ (hcB 0 (by omega))
  have htop := top_of hb h2
  have hct : w.cell? ⟨bb, ob + (b.length - 1), none⟩ = some (.int .u64 (b.getD (b.length - 1) 0 : Nat)) := hcB _ (by omega)
  generalize hT : b.getD (b.length - 1) 0 = tp at htop hct
  have HT := Lib.hid hT
  obtain ⟨L, hL⟩ : ∃ L, b.length = L + 2 := ⟨b.length - 2, by omega⟩
  rw [show b.length - 1 = L + 1 by omega] at hct
  have HA := Lib.hid hva
  have HB := Lib.hid hvb
  have HGA := Lib.hid ha
  have HGB := Lib.hid hb
  have H := Lib.hid h
  have HCB := Lib.hid hcB
  have HL := Lib.hid hL
  clear hva hvb ha hb h hcB rb hT
  rw [hL] at hcb1 hcb2 hlb HB ⊢
  have hL2 : L + 2 ≤ 100000000 := by omega
  clear hL h2
  have hne1 : (((L : Int) + 2) == 1) = false := beq_eq_false_iff_ne.2 (by omega)
  have hb0 : Below w.heap.size w ((w.alloc (.cells #[.slice (some ⟨bb, ob, none⟩) (L + 2) cb] 157)).alloc (.cells #[.slice none 0 0] 157)) := ((Below.refl _ _).alloc (Nat.le_refl _) _).alloc (by simp) _
  have bB0 := (Boxed.new w 157 (.slice (some ⟨bb, ob, none⟩) (L + 2) cb)).alloc (.cells #[.slice none 0 0] 157)
  have bQ0 := Boxed.new (w.alloc (.cells #[.slice (some ⟨bb, ob, none⟩) (L + 2) cb] 157)) 157 (.slice none 0 0)
  rw [World.size_alloc] at bQ0
  go_enter Tryz.func135, Tryz.ntmps135
  go_upto_region 13 with (go_at_call 150; refine (order_ge a b _ _ _ HGA.out HGB.out (HA.out.below hb0) (HB.out.below hb0) H.out).mono ?_; rintro e w1 ⟨r, hr1, hr2, rfl, hb1⟩; have bB1 := bB0.below hb1; have bQ1 := bQ0.below hb1; have hb01 := below_trans hb0 hb1; have hz : w.heap.size + 1 < w1.heap.size := (by have := hb1.size; simp at this; omega); have c1 := bB1.cell; have c2 := bQ1.cell; have c3 := bQ1.frozen; have c4 := (hb01.cell (p := ⟨bb, ob + (L + 1), none⟩) hbb).trans hct; clear hb0 hb1 bB0 bQ0)
  have htp1 : (tp : Int) + 1 ≤ 1000000000 := by omega
  have hfq : 1 ≤ 1000000000 / (tp + 1) := (Nat.le_div_iff_mul_le (by omega)).2 (by omega)
  have hfq2 : 1000000000 / (tp + 1) < 1000000000 := Nat.div_lt_self (by omega) (by omega)
  generalize hf : 1000000000 / (tp + 1) = f at hfq hfq2
  have HF := Lib.hid hf
  have hf1 : (1000000000 : Int) / ((tp : Int) + 1) = (f : Int) := by rw [← hf]; simp
  rw [hf1]
  clear hf hf1 htp1
  go_cut [0] (fun s0 wi => ∃ (wx : World) (A3 : Option Addr) (n3 c3 : Nat) (A4 : Option Addr) (n4 c4 : Nat), wx = wi ∧ s0 = .slice A3 n3 c3 ∧ Sl .u64 wx (.slice A3 n3 c3) (pcs 1000000000 (pv 1000000000 a * f)) ∧ Boxed wx w.heap.size 157 (.slice A4 n4 c4) ∧ Sl .u64 wx (.slice A4 n4 c4) (pcs 1000000000 (pv 1000000000 b * f)) ∧ Boxed wx (w.heap.size + 1) 157 (.slice none 0 0) ∧ Below w.heap.size w wx)
  case first =>
    have bB1' : Boxed w1.drew w.heap.size 157 (.slice (some ⟨bb, ob, none⟩) (L + 2) cb) := bB1
    have bQ1' : Boxed w1.drew (w.heap.size + 1) 157 (.slice none 0 0) := bQ1
    have hd1 : Below w1.heap.size w1 w1.drew := (Below.refl _ _).drew
    have hb02 := below_trans hb01 hd1
    have HSA := Lib.hid ((HA.out.below hb01).below hd1)
    have HSB := Lib.hid ((HB.out.below hb01).below hd1)
    have hlb' : b.length < 1000000000 := by have := HL.out; omega
    have HLB := Lib.hid hlb'
    clear hlb'
    go_region_with (first
      | (go_at_call_of 171 (Value.slice A1 a.length ca); refine (small_any a f _ _ HGA.out hfq2 HSA.out (by omega)).mono ?_; rintro e w2 ⟨v2, rfl, hs2, hb2⟩; obtain ⟨A3, c3, rfl, -⟩ := id hs2; have HS2 := Lib.hid hs2; clear hs2; have bB2 := bB1'.below hb2; have bQ2 := bQ1'.below hb2; have hb03 := below_trans hb02 hb2; have HSB2 := Lib.hid (HSB.out.below hb2); have d1 := bB2.cell; clear hb2)
      | (go_at_call 171; refine (small_any b f (.slice (some ⟨bb, ob, none⟩) (L + 2) cb) _ HGB.out hfq2 HSB2.out HLB.out).mono ?_; rintro e w3 ⟨v3, rfl, hs3, hb3⟩; obtain ⟨A4, c4, rfl, -⟩ := id hs3; have HS3 := Lib.hid hs3; clear hs3; have bB3 := bB2.below hb3; have bQ3 := bQ2.below hb3; have hb04 := below_trans hb03 hb3; have HS4 := Lib.hid (HS2.out.below hb3); have e1 := bB3.cell; have e2 := bB3.frozen; clear hb3))
    all_goals go_wp2_with fail
    all_goals
      go_meet
      exact ⟨_, A3, _, c3, A4, _, c4, rfl, rfl, (HS4.out.setBox bB3 _), bB3.set _, HS3.out.setBox bB3 _, bQ3.kept (grownBy_setCell' w3 w.heap.size _) (by simp), hb04.setCell (p := ⟨w.heap.size, 0, none⟩) (Nat.le_refl _) _⟩
  case rest =>
    obtain ⟨wx, A3, n3, c3, A4, n4, c4, rfl, rfl, hs3, bB, hs4, bQ, hbl⟩ := hcut
    have hgx := Good_pcs (B := 1000000000) (by decide) (pv 1000000000 a * f)
    have hpx := pv_pcs (B := 1000000000) (by decide) (pv 1000000000 a * f)
    have hgy := Good_pcs (B := 1000000000) (by decide) (pv 1000000000 b * f)
    have hpy := pv_pcs (B := 1000000000) (by decide) (pv 1000000000 b * f)
    have hb1' := pv_lt 1000000000 b HGB.out.bel
    have hb2' : 1000000000 ^ (L + 1) ≤ pv 1000000000 b := by
      have := (lt_pcs_length (B := 1000000000) (n := pv 1000000000 b) (k := L + 1) (by decide)).1 (by rw [pcs_pv (by decide) HGB.out, HL.out]; omega)
      exact this
    have hly1 : 2 ≤ (pcs 1000000000 (pv 1000000000 b * f)).length := (lt_pcs_length (k := 1) (by decide)).2 (by
      have h1 : 1000000000 ^ 1 ≤ 1000000000 ^ (L + 1) := Nat.pow_le_pow_right (by decide) (by omega)
      have h2 : pv 1000000000 b * 1 ≤ pv 1000000000 b * f := Nat.mul_le_mul_left _ hfq
      omega)
    have hly2 : (pcs 1000000000 (pv 1000000000 b * f)).length ≤ L + 3 := (pcs_length_le (by decide)).2 (by
      rw [HL.out] at hb1'
      have h3 : pv 1000000000 b * f < 1000000000 ^ (L + 2) * 1000000000 := Nat.mul_lt_mul_of_lt_of_lt hb1' hfq2
      rw [← Nat.pow_succ] at h3; exact h3)
    have hlx2 : (pcs 1000000000 (pv 1000000000 a * f)).length ≤ a.length + 1 := (pcs_length_le (by decide)).2 (by
      have h3 : pv 1000000000 a * f < 1000000000 ^ a.length * 1000000000 := Nat.mul_lt_mul_of_lt_of_lt (pv_lt 1000000000 a HGA.out.bel) hfq2
      rw [← Nat.pow_succ] at h3; exact h3)
    have hf0 : 0 < f := hfq
    have HFIN1 := Lib.hid (show pv 1000000000 a * f / (pv 1000000000 b * f) = pv 1000000000 a / pv 1000000000 b from scaled_div hf0)
    have HFIN2 := Lib.hid (show pv 1000000000 a * f % (pv 1000000000 b * f) / f = pv 1000000000 a % pv 1000000000 b from scaled_mod hf0)
    have HQ1 := Lib.hid (rfl : pcs 1000000000 (pv 1000000000 a / pv 1000000000 b) = pcs 1000000000 (pv 1000000000 a / pv 1000000000 b))
    generalize pcs 1000000000 (pv 1000000000 a * f) = x at hs3 hgx hpx hlx2
    generalize pcs 1000000000 (pv 1000000000 b * f) = y at hs4 hgy hpy hly1 hly2
    rw [← hpx, ← hpy] at HFIN1 HFIN2
    obtain ⟨A3', c3', e3, h31, h32, h33⟩ := id hs3
    injection e3 with i1 i2 i3
    subst i1 i2 i3
    obtain ⟨A4', c4', e4, h41, h42, h43⟩ := id hs4
    injection e4 with i1 i2 i3
    subst i1 i2 i3
    obtain ⟨by', oy, rfl, hcy⟩ := h43 (by intro e; rw [e] at hly1; simp at hly1)
    have hty := top_of hgy hly1
    have hcty : wx.cell? ⟨by', oy + (y.length - 1), none⟩ = some (.int .u64 (y.getD (y.length - 1) 0 : Nat)) := hcy _ (by omega)
    generalize hTy : y.getD (y.length - 1) 0 = ty at hty hcty
    have HTy := Lib.hid hTy
    obtain ⟨M, hM⟩ : ∃ M, y.length = M + 2 := ⟨y.length - 2, by omega⟩
    have HM := Lib.hid hM
    rw [show y.length - 1 = M + 1 by omega] at hcty
    rw [hM] at bB hs4 h41 hly2
    clear hTy hM h42 h43 h33 hcy hly1 hb1' hb2' hpx hpy
    have hmk := make_run 157 165 .u64 8 Tryz.underlying157 infoU64 x.length (by omega) (by omega)
    have c1 := bB.cell
    have c2 := bQ.cell
    have c3' := bQ.frozen
    have z1 := bB.lt
    have z2 := bQ.lt
    have hby : by' < wx.heap.size := World.block_lt_of_cell? wx _ hcty
    go_wp2
    have bBy := bB.kept (grownBy_setCell' wx (w.heap.size + 1) (.slice (some ⟨wx.heap.size, 0, none⟩) x.length x.length)) (by simp)
    have bQy := bQ.set (.slice (some ⟨wx.heap.size, 0, none⟩) x.length x.length)
    have hs3y := hs3.setBox bQ (.slice (some ⟨wx.heap.size, 0, none⟩) x.length x.length)
    have hs4y := hs4.setBox bQ (.slice (some ⟨wx.heap.size, 0, none⟩) x.length x.length)
    have hbly := hbl.setCell (p := ⟨w.heap.size + 1, 0, none⟩) (Nat.le_succ _) (.slice (some ⟨wx.heap.size, 0, none⟩) x.length x.length)
    have hsz : (wx.setCell ⟨w.heap.size + 1, 0, none⟩ (.slice (some ⟨wx.heap.size, 0, none⟩) x.length x.length)).heap.size = wx.heap.size := by simp
    generalize wx.setCell ⟨w.heap.size + 1, 0, none⟩ (.slice (some ⟨wx.heap.size, 0, none⟩) x.length x.length) = wy at bBy bQy hs3y hs4y hbly hsz ⊢
    clear hs3 hs4 bB bQ hbl c1 c2 c3' hmk z1 z2 hcty
    have rG := Rw_made .u64 165 wy wy.heap.size x.length (Nat.le_refl _) (by omega)
    have hb0 : Below wy.heap.size wy (wy.alloc (.cells (nu .u64 (List.replicate x.length 0)).toArray 165)) := (Below.refl _ _).alloc (Nat.le_refl _) _
    generalize wy.alloc (.cells (nu .u64 (List.replicate x.length 0)).toArray 165) = ws at rG hb0 ⊢
    generalize hG : wx.heap.size = G at *
    rw [hsz] at rG
    have HSZ := Lib.hid hsz
    clear hsz
    have HX := Lib.hid hs3y
    have HY := Lib.hid hs4y
    have HGX := Lib.hid hgx
    have HGY := Lib.hid hgy
    have HBL := Lib.hid hbly
    have hy0 : 0 < pv 1000000000 y := Nat.pos_of_ne_zero (fun e => by have := (Good_pos hgy (by decide)).1 e; rw [this] at HM; have := HM.out; simp at this)
    clear hs3y hs4y hgx hgy hbly
    have hzB := bBy.lt
    have hzQ := bQy.lt
    go_loopw [5, 11] (fun rv ik wr => ∃ (wq : World) (k : Nat) (q : List Nat) (r : Nat) (A5 : Option Addr) (n5 c5 : Nat), wq = wr ∧ k ≤ x.length ∧ ik = .int .i64 ((k : Int) - 1) ∧ rv = .slice A5 n5 c5 ∧ Sl .u64 wr (.slice A5 n5 c5) (pcs 1000000000 r) ∧ LongAt 1000000000 x (pv 1000000000 y) x.length k q r ∧ Rw .u64 165 G G x.length q wr ∧ Below wy.heap.size wy wr)
      (fun _ ik _ => (intOf ik + 1).toNat)
    case atStart => exact ⟨_, x.length, _, 0, none, 0, 0, rfl, Nat.le_refl _, rfl, rfl, by rw [pcs_zero]; exact Sl_nil _ _, LongAt.start (by decide) hy0, rG, hb0⟩
    case round =>
      obtain ⟨wr, k, q, r, A5, n5, c5, rfl, hk, rfl, rfl, hsr, hla', hrw, hbr⟩ := hrel
      have HLA := Lib.hid hla'
      have HRW := Lib.hid hrw
      have hr0 := hla'.rest
      have cB := (bBy.below hbr).cell
      have cQ := (bQy.below hbr).cell
      clear hla' hrw rG hb0
      cases k with
      | zero =>
        obtain ⟨hq, hr⟩ := HLA.out.done (by decide)
        have HQ := Lib.hid hq
        have HR := Lib.hid hr
        clear hq hr
        rw [show (((0 : Nat) : Int) - 1) = -1 by rfl]
        go_wp2_with fail
        have hr1 : r < pv 1000000000 y := hr0
        have hlr : (pcs 1000000000 r).length < 1000000000 := by
          have h1 := pv_lt 1000000000 y HGY.out.bel
          rw [HM.out] at h1
          have := (pcs_length_le (B := 1000000000) (n := r) (k := M + 2) (by decide)).2 (by omega)
          omega
        have hbw : Below wr.heap.size wr (wr.alloc (.cells #[.int .u64 (f : Int)] 165)) := (Below.refl _ _).alloc (Nat.le_refl _) _
        refine (divide_one (pcs 1000000000 r) f _ _ 1 _ (Good_pcs (by decide) _) hf0 hfq2 (hsr.below hbw) (Sl_one .u64 wr 165 f) hlr).mono ?_
        rw [pv_pcs (by decide), HR.out, HFIN2.out]
        rintro e w2 ⟨vq, vr, rfl, hsq, hsr2, hb2⟩
        obtain ⟨Aq, cq, rfl, -⟩ := id hsq
        obtain ⟨Ar, cr, rfl, -⟩ := id hsr2
        have HSR2 := Lib.hid hsq
        have hbw2 := below_trans hbw hb2
        have hby2 := below_trans hbr hbw2
        have HRW2 := Lib.hid (HRW.out.below hbw2)
        have dQ := (bQy.below hby2).cell
        have dQf := (bQy.below hby2).frozen
        clear hsr2 hsq hb2
        go_wp2_with fail
        have hsG := HRW2.out.Sl (by omega)
        refine (trim_at _ _ _ q _ HRW2.out.len.symm hsG).mono ?_
        rintro e w' ⟨⟨rfl, hs1⟩, rfl⟩
        rw [HQ.out, HFIN1.out] at hs1 ⊢
        have HS1 := Lib.hid hs1
        have HB2 := Lib.hid hby2
        clear hs1 hsG hby2 hbw2
        go_wp2_with fail
        have hfinal := (HBL.out.trans (HB2.out.mono (by have := HBL.out.size; omega))).setCell (p := ⟨w.heap.size + 1, 0, none⟩) (Nat.le_succ _) (.slice (some ⟨G, 0, none⟩) (pcs 1000000000 (pv 1000000000 a / pv 1000000000 b)).length x.length)
        have hf1 := HS1.out.setBox (bQy.below HB2.out) (.slice (some ⟨G, 0, none⟩) (pcs 1000000000 (pv 1000000000 a / pv 1000000000 b)).length x.length)
        have hf2 := HSR2.out.setBox (bQy.below HB2.out) (.slice (some ⟨G, 0, none⟩) (pcs 1000000000 (pv 1000000000 a / pv 1000000000 b)).length x.length)
        exact bodyPost_ret (v := .tuple #[.slice (some ⟨G, 0, none⟩) (pcs 1000000000 (pv 1000000000 a / pv 1000000000 b)).length x.length, .slice Aq (pcs 1000000000 (pv 1000000000 a % pv 1000000000 b)).length cq]) (by simp [results, Tryz.results135, go_sem, dQ]) rfl ⟨_, _, rfl, hf1, hf2, hfinal⟩
      | succ k =>
        obtain ⟨A6, c6, e6, -, -, h63⟩ := HX.out
        injection e6 with i1 i2 i3
        subst i1 i3
        clear i2
        obtain ⟨b3, o3, rfl, hcx⟩ := h63 (by intro e; simp [e] at hk)
        have cx : wr.cell? ⟨b3, o3 + k, none⟩ = some (.int .u64 (x.getD k 0 : Nat)) := cell_below hbr (hcx k (by omega))
        have hxk : x.getD k 0 < 1000000000 := getD_lt (by decide) HGX.out.bel k
        have HLT := Lib.hid (HLA.out.lt HGX.out.bel (by decide))
        have HSKIP := Lib.hid (HLA.out.skip (k := k) (by omega) (by omega))
        have HSTEP := Lib.hid (fun d => HLA.out.step (k := k) (d := d) (by decide) HGX.out.bel (by omega) (by omega))
        have HCONS := Lib.hid (ptrim_cons_pcs (B := 1000000000) (x := x.getD k 0) (r := r) (by decide) hxk)
        have hlr : (pcs 1000000000 r).length ≤ M + 2 := by
          have h1 := pv_lt 1000000000 y HGY.out.bel
          rw [HM.out] at h1
          exact (pcs_length_le (B := 1000000000) (n := r) (k := M + 2) (by decide)).2 (by omega)
        have HN5 : Hid (n5 = (pcs 1000000000 r).length) := Lib.hid (by obtain ⟨_, _, e, _⟩ := hsr; injection e)
        have hn5 : n5 ≤ 1000000000 := by have := HN5.out; omega
        generalize hxx : x.getD k 0 = xk at cx hxk HLT HSKIP HSTEP HCONS
        have HXK := Lib.hid hxx
        have HSR := Lib.hid hsr
        clear hxx hcx h63 hsr
        rw [show ((k + 1 : Nat) : Int) - 1 = (k : Int) by omega]
        go_wp2_with (at_builtin; refine app_cons wr rfl _ _ 157 165 .u64 rfl Tryz.underlying157 infoU64 xk _ rfl A5 n5 c5 (pcs 1000000000 r) HN5.out rfl rfl HSR.out hn5 ?_; intro A7 n7 c7 w2 hn7 hs7 hb2)
        refine (trim_at _ _ _ (xk :: pcs 1000000000 r) _ (by simp) (by rw [hn7] at hs7; exact hs7)).mono ?_
        rintro e w' ⟨⟨rfl, hs8⟩, rfl⟩
        rw [HCONS.out] at hs8 ⊢
        have hby2 := below_trans hbr hb2
        have HRW2 := Lib.hid (HRW.out.below hb2)
        have cB2 := (bBy.below hby2).cell
        have cQ2 := (bQy.below hby2).cell
        have HS8 := Lib.hid hs8
        have HYY := Lib.hid (HY.out.below hby2)
        have HGR := Lib.hid (Good_pcs (B := 1000000000) (by decide) (xk + 1000000000 * r))
        have hpr : pv 1000000000 (pcs 1000000000 (xk + 1000000000 * r)) = xk + 1000000000 * r := pv_pcs (by decide) _
        have HPR := Lib.hid hpr
        have HBY2 := Lib.hid hby2
        clear hs8 hs7 hpr hby2 hb2 hn7 cB cQ hbr
        by_cases hlt : xk + 1000000000 * r < pv 1000000000 y
        · go_wp2_with (go_at_call 150; refine (order_lt _ y _ _ _ HGR.out HGY.out HS8.out HYY.out (by rw [HPR.out]; exact hlt)).mono ?_; rintro e w3 ⟨rfl, hb3⟩)
          go_roundw
          case rel => exact ⟨_, k, q, xk + 1000000000 * r, A7, _, c7, rfl, by omega, rfl, rfl, HS8.out.below hb3, HSKIP.out hlt, HRW2.out.below hb3, below_trans HBY2.out hb3⟩
          case measure => simp [intOf]
        · have HGE := Lib.hid (Nat.le_of_not_lt hlt)
          have hlt2 := HLT.out
          have hyl := pv_lt 1000000000 y HGY.out.bel
          rw [HM.out] at hyl
          have hyg : 1000000000 ^ (M + 1) ≤ pv 1000000000 y := (lt_pcs_length (B := 1000000000) (n := pv 1000000000 y) (k := M + 1) (by decide)).1 (by rw [pcs_pv (by decide) HGY.out, HM.out]; omega)
          have hl1 : M + 2 ≤ (pcs 1000000000 (xk + 1000000000 * r)).length := (lt_pcs_length (k := M + 1) (by decide)).2 (by omega)
          have hl2 : (pcs 1000000000 (xk + 1000000000 * r)).length ≤ M + 3 := (pcs_length_le (by decide)).2 (by
            have : pv 1000000000 y * 1000000000 ≤ 1000000000 ^ (M + 2) * 1000000000 := Nat.mul_le_mul_right _ (by omega)
            rw [← Nat.pow_succ] at this; exact Nat.lt_of_lt_of_le hlt2 this)
          have HDG := Lib.hid (digit_ge (B := 1000000000) (b := pv 1000000000 y) (r := xk + 1000000000 * r) (L := M + 1) (by decide) hy0 (by rw [pcs_pv (by decide) HGY.out, HM.out]) hlt2)
          have HTY2 : Hid ((pcs 1000000000 (pv 1000000000 y)).getD (M + 1) 0 = ty) := Lib.hid (by rw [pcs_pv (by decide) HGY.out]; have := HTy.out; rw [HM.out] at this; exact this)
          have hcty3 : wy.cell? ⟨by', oy + (M + 1), none⟩ = some (.int .u64 (ty : Int)) := by
            obtain ⟨A6, c6, e6, -, -, h63⟩ := HY.out
            injection e6 with i1 i2 i3
            obtain ⟨b6, o6, i4, hcy⟩ := h63 (by intro e; have := HM.out; rw [e] at this; simp at this)
            rw [← i1] at i4
            injection i4 with i4
            injection i4 with i5 i6
            subst i5 i6
            have := hcy (M + 1) (by rw [HM.out]; omega)
            rw [this]
            have h7 := HTy.out
            rw [HM.out] at h7
            rw [show M + 1 = M + 2 - 1 by omega, h7]
          have HRP := Lib.hid (rfl : pcs 1000000000 (xk + 1000000000 * r) = pcs 1000000000 (xk + 1000000000 * r))
          obtain ⟨A8, c8, e8, -, -, h83⟩ := HS8.out
          injection e8 with i1 i2 i3
          subst i1 i3
          clear i2
          obtain ⟨b7, o7, rfl, hc7⟩ := h83 (by intro e; rw [e] at hl1; simp at hl1)
          have hc7a : w2.cell? ⟨b7, o7 + (M + 1), none⟩ = some (.int .u64 ((pcs 1000000000 (xk + 1000000000 * r)).getD (M + 1) 0 : Nat)) := hc7 _ (by omega)
          have hd1 : (pcs 1000000000 (xk + 1000000000 * r)).getD (M + 1) 0 < 1000000000 := getD_lt (by decide) HGR.out.bel _
          rcases Nat.lt_or_ge (pcs 1000000000 (xk + 1000000000 * r)).length (M + 3) with h3 | h3
          · have hlen : (pcs 1000000000 (xk + 1000000000 * r)).length = M + 2 := by omega
            have hq0 : (pcs 1000000000 (xk + 1000000000 * r)).getD (M + 1) 0 = (xk + 1000000000 * r) / 1000000000 ^ (M + 1) := by
              exact top_one (by decide) ((pcs_length_le (B := 1000000000) (n := xk + 1000000000 * r) (k := M + 2) (by decide)).1 (by omega))
            generalize (pcs 1000000000 (xk + 1000000000 * r)).getD (M + 1) 0 = da at hc7a hd1 hq0
            rw [hlen] at HS8 ⊢
            have HQ0 := Lib.hid hq0
            clear hq0 hlen hc7 h83 hl1 hl2 h3 hyl hyg hlt2 hlt
            go_upto_region 24 with ((go_at_call 150; refine (order_ge _ y _ _ _ HGR.out HGY.out HS8.out HYY.out (by rw [HPR.out]; exact HGE.out)).mono ?_; rintro e w3 ⟨r9, hr91, hr92, rfl, hb3⟩; have cr1 := cell_below hb3 hc7a; have cB3 := cell_below hb3 cB2; have HS9 := Lib.hid (HS8.out.below hb3); have HYY3 := Lib.hid (HYY.out.below hb3); have HRW3 := Lib.hid (HRW2.out.below hb3); have HBY3 := Lib.hid (below_trans HBY2.out hb3); have ct3 := cell_below HBY3.out hcty3; clear hb3))
            have hdv : (((da : Nat) : Int)) / (ty : Int) = ((da / ty : Nat) : Int) := by simp
            have hdle : da / ty ≤ da := Nat.div_le_self _ _
            have HMIN : Hid ((xk + 1000000000 * r) / pv 1000000000 y ≤ min (da / ty) 999999999) := Lib.hid (by have := HDG.out; rw [HTY2.out, ← HQ0.out] at this; exact this)
            have hwr : IntKind.u64.wrap ((da : Int) / (ty : Int)) = ((da / ty : Nat) : Int) := by
              rw [← hdv]; have h7 : IntKind.u64.wrap (((da : Nat) : Int).tdiv (ty : Int)) = _ := quo_u64 (x := da) (d := ty) (by omega)
              rw [Int.tdiv_eq_ediv_of_nonneg (by omega)] at h7; simpa using h7
            generalize da / ty = dq at hdle hwr HMIN hdv
            have hdq : dq < 2000000000000000000 := by omega
            have hdv2 : (da : Int) / (ty : Int) = (dq : Int) := by first | exact hdv | (rw [← hdv]; simp)
            clear hdv hdle
            go_cut [12] (fun s12 wi => ∃ d : Nat, s12 = .int .u64 d ∧ d < 1000000000 ∧ (xk + 1000000000 * r) / pv 1000000000 y ≤ d ∧ w3 = wi)
            case first =>
              go_wp2_with fail
              all_goals go_meet
              all_goals first
                | exact ⟨999999999, rfl, by omega, by have := HMIN.out; omega, rfl⟩
                | exact ⟨dq, rfl, by omega, by have := HMIN.out; omega, rfl⟩
                | exact ⟨dq, by rw [hdv2], by omega, by have := HMIN.out; omega, rfl⟩
            case rest =>
              obtain ⟨d, rfl, hdB, hdg, rfl⟩ := hcut
              have HDGE := Lib.hid hdg
              have hly3 : y.length < 1000000000 := by have := HM.out; omega
              have HLY3 := Lib.hid hly3
              clear hdg hwr hdv2 hdq hly3 HMIN
              go_wp2_with (go_at_call 171; refine (small_any y d _ _ HGY.out hdB HYY3.out HLY3.out).mono ?_; rintro e w4 ⟨vp, rfl, hsp, hb4⟩; obtain ⟨Ap, cp, rfl, -⟩ := id hsp; have HSP := Lib.hid hsp; have HB4 := Lib.hid hb4; clear hsp hb4)
              go_loopw [12, 13] (fun dv pvv wr => ∃ (wq : World) (d' : Nat) (A9 : Option Addr) (n9 c9 : Nat), wq = wr ∧ dv = .int .u64 d' ∧ d' < 1000000000 ∧ (xk + 1000000000 * r) / pv 1000000000 y ≤ d' ∧ pvv = .slice A9 n9 c9 ∧ Sl .u64 wr (.slice A9 n9 c9) (pcs 1000000000 (pv 1000000000 y * d')) ∧ Below w3.heap.size w3 wr)
                (fun dv _ _ => (intOf dv).toNat)
              case atStart => exact ⟨_, d, Ap, _, cp, rfl, rfl, hdB, HDGE.out, rfl, HSP.out, HB4.out⟩
              case round =>
                obtain ⟨wr5, d', A9, n9, c9, rfl, rfl, hdB', hdg', rfl, hsp', hb5⟩ := hrel
                have HSP5 := Lib.hid hsp'
                have HDG5 := Lib.hid hdg'
                have HGP := Lib.hid (Good_pcs (B := 1000000000) (by decide) (pv 1000000000 y * d'))
                have HPP := Lib.hid (pv_pcs (B := 1000000000) (by decide) (pv 1000000000 y * d'))
                have HS95 := Lib.hid (HS9.out.below hb5)
                have HY5 := Lib.hid (HYY3.out.below hb5)
                have HBY5 := Lib.hid (below_trans HBY3.out hb5)
                have HRW5 := Lib.hid (HRW3.out.below hb5)
                have cB5 := (bBy.below HBY5.out).cell
                have cQ5 := (bQy.below HBY5.out).cell
                have HB5 := Lib.hid hb5
                have HLP : Hid ((pcs 1000000000 (pv 1000000000 y * d')).length < 1000000000) := Lib.hid (by
                  have h1 := pv_lt 1000000000 y HGY.out.bel
                  rw [HM.out] at h1
                  have h3 : pv 1000000000 y * d' < 1000000000 ^ (M + 2) * 1000000000 := Nat.mul_lt_mul_of_lt_of_lt h1 hdB'
                  rw [← Nat.pow_succ] at h3
                  have := (pcs_length_le (B := 1000000000) (n := pv 1000000000 y * d') (k := M + 3) (by decide)).2 h3
                  omega)
                clear hsp' hdg' hb5
                by_cases hgt : xk + 1000000000 * r < pv 1000000000 y * d'
                · have hd0 : 1 ≤ d' := by
                    rcases Nat.eq_zero_or_pos d' with e | e
                    · subst e; simp at hgt
                    · exact e
                  have HGT := Lib.hid hgt
                  clear hgt
                  go_wp2_with fail
                  refine (order_gt (pcs 1000000000 (pv 1000000000 y * d')) (pcs 1000000000 (xk + 1000000000 * r)) _ _ _ HGP.out HGR.out HSP5.out HS95.out (by rw [HPP.out, HPR.out]; exact HGT.out)).mono ?_
                  rintro e w6 ⟨rfl, hb6⟩
                  have cB6 := cell_below hb6 cB5
                  have HSP6 := Lib.hid (HSP5.out.below hb6)
                  have HY6 := Lib.hid (HY5.out.below hb6)
                  have HB6 := Lib.hid hb6
                  clear hb6
                  go_wp2_with fail
                  refine (minus_any (pcs 1000000000 (pv 1000000000 y * d')) y _ _ _ HGP.out HGY.out HSP6.out HY6.out HLP.out (by rw [HPP.out]; exact Nat.le_mul_of_pos_right _ hd0)).mono ?_
                  rw [HPP.out]
                  rintro e w7 ⟨v7, rfl, hs7', hb7⟩
                  obtain ⟨A10, c10, rfl, -⟩ := id hs7'
                  have HB7 := Lib.hid (below_trans HB5.out (below_trans HB6.out hb7))
                  have HS7' := Lib.hid hs7'
                  clear hb7 hs7'
                  go_wp2_with fail
                  go_roundw
                  case rel => exact ⟨_, d' - 1, A10, _, c10, rfl, by go_num, by omega, div_pred HDG5.out HGT.out, rfl, by have := HS7'.out; rwa [mul_pred hd0] at this ⊢, HB7.out⟩
                  case measure => simp [intOf]; omega
                · have HLE := Lib.hid (Nat.le_of_not_lt hgt)
                  clear hgt
                  have HEX := Lib.hid (div_exact HDG5.out hy0 HLE.out)
                  go_wp2_with fail
                  refine (order_le (pcs 1000000000 (pv 1000000000 y * d')) (pcs 1000000000 (xk + 1000000000 * r)) _ _ _ HGP.out HGR.out HSP5.out HS95.out (by rw [HPP.out, HPR.out]; exact HLE.out)).mono ?_
                  rintro e w6 ⟨r8, hr81, hr82, rfl, hb6⟩
                  have cQ6 := cell_below hb6 cQ5
                  have HSP6 := Lib.hid (HSP5.out.below hb6)
                  have HS96 := Lib.hid (HS95.out.below hb6)
                  have hrw6 := HRW5.out.below hb6
                  have hgc := hrw6.cell (j := k) (by omega)
                  have hgf := hrw6.frozen k
                  have HRW6 := Lib.hid hrw6
                  have HBY6 := Lib.hid (below_trans HBY5.out hb6)
                  have hkx : k < x.length := by omega
                  generalize q.getD k 0 = qk at hgc
                  have HLR : Hid ((pcs 1000000000 (xk + 1000000000 * r)).length < 1000000000) := Lib.hid (by obtain ⟨_, _, e, -⟩ := HS96.out; injection e with _ e2 _; rw [← e2]; omega)
                  clear hb6 hrw6
                  go_wp2_with fail
                  have hdr : Below w6.heap.size w6 w6.drew := (Below.refl _ _).drew
                  have HS9D := Lib.hid (HS96.out.below hdr)
                  have HSPD := Lib.hid (HSP6.out.below hdr)
                  have HRWD := Lib.hid (HRW6.out.below hdr)
                  have HBYD := Lib.hid (below_trans HBY6.out hdr)
                  have HLE2 : Hid (pv 1000000000 (pcs 1000000000 (pv 1000000000 y * d')) ≤ pv 1000000000 (pcs 1000000000 (xk + 1000000000 * r))) := Lib.hid (by rw [HPP.out, HPR.out]; exact HLE.out)
                  have hgB := (HBYD.out.size)
                  clear hdr
                  go_region_with (go_at_call 138; refine (minus_at (pcs 1000000000 (xk + 1000000000 * r)) (pcs 1000000000 (pv 1000000000 y * d')) _ _ _ HGR.out HGP.out HS9D.out HSPD.out HLR.out HLE2.out).mono ?_; rintro e w8 ⟨n11, c11, rfl, hs8', hb8⟩; have hrw8 := HRWD.out.below hb8; have hg8 := hrw8.cell (j := k) hkx; have hg9 := hrw8.frozen k; have HRW8 := Lib.hid hrw8; have HBY8 := Lib.hid (below_trans HBYD.out hb8); have cQ8 := (bQy.below HBY8.out).cell; have HS8' := Lib.hid hs8'; generalize q.getD k 0 = qk8 at hg8; clear hb8 hs8' hrw8)
                  all_goals go_wp2_with fail
                  all_goals
                    go_roundw
                    case rel =>
                      have hst := HSTEP.out d' HEX.out.1 HEX.out.2
                      have hsl := HS8'.out.setOther (B := G) (i := k) (by have := HRWD.out.lt; omega) (.int .u64 (d' : Int))
                      rw [HPR.out, HPP.out, Nat.mul_comm (pv 1000000000 y) d'] at hsl
                      exact ⟨_, k, _, _, _, _, _, rfl, by omega, rfl, rfl, hsl, hst, HRW8.out.store' k d' _ rfl, HBY8.out.setCell (p := ⟨G, k, none⟩) (by rw [← HSZ.out]; exact Nat.le_refl _) _⟩
                    case measure => simp [intOf]
          · have hlen : (pcs 1000000000 (xk + 1000000000 * r)).length = M + 3 := by omega
            have hc7b : w2.cell? ⟨b7, o7 + (M + 2), none⟩ = some (.int .u64 ((pcs 1000000000 (xk + 1000000000 * r)).getD (M + 2) 0 : Nat)) := hc7 _ (by omega)
            have hd2 : (pcs 1000000000 (xk + 1000000000 * r)).getD (M + 2) 0 < 1000000000 := getD_lt (by decide) HGR.out.bel _
            have hq0 : (pcs 1000000000 (xk + 1000000000 * r)).getD (M + 2) 0 * 1000000000 + (pcs 1000000000 (xk + 1000000000 * r)).getD (M + 1) 0 = (xk + 1000000000 * r) / 1000000000 ^ (M + 1) := by
              exact top_two (by decide) ((pcs_length_le (B := 1000000000) (n := xk + 1000000000 * r) (k := M + 3) (by decide)).1 (by omega))
            generalize (pcs 1000000000 (xk + 1000000000 * r)).getD (M + 1) 0 = da at hc7a hd1 hq0
            generalize (pcs 1000000000 (xk + 1000000000 * r)).getD (M + 2) 0 = db at hc7b hd2 hq0
            rw [hlen] at HS8 ⊢
            have HQ0 := Lib.hid hq0
            clear hq0 hlen hc7 h83 hl1 hl2 h3 hyl hyg hlt2 hlt
            go_upto_region 24 with ((go_at_call 150; refine (order_ge _ y _ _ _ HGR.out HGY.out HS8.out HYY.out (by rw [HPR.out]; exact HGE.out)).mono ?_; rintro e w3 ⟨r9, hr91, hr92, rfl, hb3⟩; have cr1 := cell_below hb3 hc7a; have cr2 := cell_below hb3 hc7b; have cB3 := cell_below hb3 cB2; have HS9 := Lib.hid (HS8.out.below hb3); have HYY3 := Lib.hid (HYY.out.below hb3); have HRW3 := Lib.hid (HRW2.out.below hb3); have HBY3 := Lib.hid (below_trans HBY2.out hb3); have ct3 := cell_below HBY3.out hcty3; clear hb3))
            have hdv : ((((db * 1000000000 + da) : Nat) : Int)) / (ty : Int) = (((db * 1000000000 + da) / ty : Nat) : Int) := by simp
            have hdle : (db * 1000000000 + da) / ty ≤ (db * 1000000000 + da) := Nat.div_le_self _ _
            have HMIN : Hid ((xk + 1000000000 * r) / pv 1000000000 y ≤ min ((db * 1000000000 + da) / ty) 999999999) := Lib.hid (by have := HDG.out; rw [HTY2.out, ← HQ0.out] at this; exact this)
            have hwr : IntKind.u64.wrap (((db : Int) * 1000000000 + (da : Int)) / (ty : Int)) = (((db * 1000000000 + da) / ty : Nat) : Int) := by
              rw [← hdv]; have h7 : IntKind.u64.wrap ((((db * 1000000000 + da) : Nat) : Int).tdiv (ty : Int)) = _ := quo_u64 (x := (db * 1000000000 + da)) (d := ty) (by omega)
              rw [Int.tdiv_eq_ediv_of_nonneg (by omega)] at h7; simpa using h7
            generalize (db * 1000000000 + da) / ty = dq at hdle hwr HMIN hdv
            have hdq : dq < 2000000000000000000 := by omega
            have hdv2 : ((db : Int) * 1000000000 + (da : Int)) / (ty : Int) = (dq : Int) := by first | exact hdv | (rw [← hdv]; simp)
            clear hdv hdle
            go_cut [12] (fun s12 wi => ∃ d : Nat, s12 = .int .u64 d ∧ d < 1000000000 ∧ (xk + 1000000000 * r) / pv 1000000000 y ≤ d ∧ w3 = wi)
            case first =>
              go_wp2_with fail
              all_goals go_meet
              all_goals first
                | exact ⟨999999999, rfl, by omega, by have := HMIN.out; omega, rfl⟩
                | exact ⟨dq, rfl, by omega, by have := HMIN.out; omega, rfl⟩
                | exact ⟨dq, by rw [hdv2], by omega, by have := HMIN.out; omega, rfl⟩
            case rest =>
              obtain ⟨d, rfl, hdB, hdg, rfl⟩ := hcut
              have HDGE := Lib.hid hdg
              have hly3 : y.length < 1000000000 := by have := HM.out; omega
              have HLY3 := Lib.hid hly3
              clear hdg hwr hdv2 hdq hly3 HMIN
              go_wp2_with (go_at_call 171; refine (small_any y d _ _ HGY.out hdB HYY3.out HLY3.out).mono ?_; rintro e w4 ⟨vp, rfl, hsp, hb4⟩; obtain ⟨Ap, cp, rfl, -⟩ := id hsp; have HSP := Lib.hid hsp; have HB4 := Lib.hid hb4; clear hsp hb4)
              go_loopw [12, 13] (fun dv pvv wr => ∃ (wq : World) (d' : Nat) (A9 : Option Addr) (n9 c9 : Nat), wq = wr ∧ dv = .int .u64 d' ∧ d' < 1000000000 ∧ (xk + 1000000000 * r) / pv 1000000000 y ≤ d' ∧ pvv = .slice A9 n9 c9 ∧ Sl .u64 wr (.slice A9 n9 c9) (pcs 1000000000 (pv 1000000000 y * d')) ∧ Below w3.heap.size w3 wr)
                (fun dv _ _ => (intOf dv).toNat)
              case atStart => exact ⟨_, d, Ap, _, cp, rfl, rfl, hdB, HDGE.out, rfl, HSP.out, HB4.out⟩
              case round =>
                obtain ⟨wr5, d', A9, n9, c9, rfl, rfl, hdB', hdg', rfl, hsp', hb5⟩ := hrel
                have HSP5 := Lib.hid hsp'
                have HDG5 := Lib.hid hdg'
                have HGP := Lib.hid (Good_pcs (B := 1000000000) (by decide) (pv 1000000000 y * d'))
                have HPP := Lib.hid (pv_pcs (B := 1000000000) (by decide) (pv 1000000000 y * d'))
                have HS95 := Lib.hid (HS9.out.below hb5)
                have HY5 := Lib.hid (HYY3.out.below hb5)
                have HBY5 := Lib.hid (below_trans HBY3.out hb5)
                have HRW5 := Lib.hid (HRW3.out.below hb5)
                have cB5 := (bBy.below HBY5.out).cell
                have cQ5 := (bQy.below HBY5.out).cell
                have HB5 := Lib.hid hb5
                have HLP : Hid ((pcs 1000000000 (pv 1000000000 y * d')).length < 1000000000) := Lib.hid (by
                  have h1 := pv_lt 1000000000 y HGY.out.bel
                  rw [HM.out] at h1
                  have h3 : pv 1000000000 y * d' < 1000000000 ^ (M + 2) * 1000000000 := Nat.mul_lt_mul_of_lt_of_lt h1 hdB'
                  rw [← Nat.pow_succ] at h3
                  have := (pcs_length_le (B := 1000000000) (n := pv 1000000000 y * d') (k := M + 3) (by decide)).2 h3
                  omega)
                clear hsp' hdg' hb5
                by_cases hgt : xk + 1000000000 * r < pv 1000000000 y * d'
                · have hd0 : 1 ≤ d' := by
                    rcases Nat.eq_zero_or_pos d' with e | e
                    · subst e; simp at hgt
                    · exact e
                  have HGT := Lib.hid hgt
                  clear hgt
                  go_wp2_with fail
                  refine (order_gt (pcs 1000000000 (pv 1000000000 y * d')) (pcs 1000000000 (xk + 1000000000 * r)) _ _ _ HGP.out HGR.out HSP5.out HS95.out (by rw [HPP.out, HPR.out]; exact HGT.out)).mono ?_
                  rintro e w6 ⟨rfl, hb6⟩
                  have cB6 := cell_below hb6 cB5
                  have HSP6 := Lib.hid (HSP5.out.below hb6)
                  have HY6 := Lib.hid (HY5.out.below hb6)
                  have HB6 := Lib.hid hb6
                  clear hb6
                  go_wp2_with fail
                  refine (minus_any (pcs 1000000000 (pv 1000000000 y * d')) y _ _ _ HGP.out HGY.out HSP6.out HY6.out HLP.out (by rw [HPP.out]; exact Nat.le_mul_of_pos_right _ hd0)).mono ?_
                  rw [HPP.out]
                  rintro e w7 ⟨v7, rfl, hs7', hb7⟩
                  obtain ⟨A10, c10, rfl, -⟩ := id hs7'
                  have HB7 := Lib.hid (below_trans HB5.out (below_trans HB6.out hb7))
                  have HS7' := Lib.hid hs7'
                  clear hb7 hs7'
                  go_wp2_with fail
                  go_roundw
                  case rel => exact ⟨_, d' - 1, A10, _, c10, rfl, by go_num, by omega, div_pred HDG5.out HGT.out, rfl, by have := HS7'.out; rwa [mul_pred hd0] at this ⊢, HB7.out⟩
                  case measure => simp [intOf]; omega
                · have HLE := Lib.hid (Nat.le_of_not_lt hgt)
                  clear hgt
                  have HEX := Lib.hid (div_exact HDG5.out hy0 HLE.out)
                  go_wp2_with fail
                  refine (order_le (pcs 1000000000 (pv 1000000000 y * d')) (pcs 1000000000 (xk + 1000000000 * r)) _ _ _ HGP.out HGR.out HSP5.out HS95.out (by rw [HPP.out, HPR.out]; exact HLE.out)).mono ?_
                  rintro e w6 ⟨r8, hr81, hr82, rfl, hb6⟩
                  have cQ6 := cell_below hb6 cQ5
                  have HSP6 := Lib.hid (HSP5.out.below hb6)
                  have HS96 := Lib.hid (HS95.out.below hb6)
                  have hrw6 := HRW5.out.below hb6
                  have hgc := hrw6.cell (j := k) (by omega)
                  have hgf := hrw6.frozen k
                  have HRW6 := Lib.hid hrw6
                  have HBY6 := Lib.hid (below_trans HBY5.out hb6)
                  have hkx : k < x.length := by omega
                  generalize q.getD k 0 = qk at hgc
                  have HLR : Hid ((pcs 1000000000 (xk + 1000000000 * r)).length < 1000000000) := Lib.hid (by obtain ⟨_, _, e, -⟩ := HS96.out; injection e with _ e2 _; rw [← e2]; omega)
                  clear hb6 hrw6
                  go_wp2_with fail
                  have hdr : Below w6.heap.size w6 w6.drew := (Below.refl _ _).drew
                  have HS9D := Lib.hid (HS96.out.below hdr)
                  have HSPD := Lib.hid (HSP6.out.below hdr)
                  have HRWD := Lib.hid (HRW6.out.below hdr)
                  have HBYD := Lib.hid (below_trans HBY6.out hdr)
                  have HLE2 : Hid (pv 1000000000 (pcs 1000000000 (pv 1000000000 y * d')) ≤ pv 1000000000 (pcs 1000000000 (xk + 1000000000 * r))) := Lib.hid (by rw [HPP.out, HPR.out]; exact HLE.out)
                  have hgB := (HBYD.out.size)
                  clear hdr
                  go_region_with (go_at_call 138; refine (minus_at (pcs 1000000000 (xk + 1000000000 * r)) (pcs 1000000000 (pv 1000000000 y * d')) _ _ _ HGR.out HGP.out HS9D.out HSPD.out HLR.out HLE2.out).mono ?_; rintro e w8 ⟨n11, c11, rfl, hs8', hb8⟩; have hrw8 := HRWD.out.below hb8; have hg8 := hrw8.cell (j := k) hkx; have hg9 := hrw8.frozen k; have HRW8 := Lib.hid hrw8; have HBY8 := Lib.hid (below_trans HBYD.out hb8); have cQ8 := (bQy.below HBY8.out).cell; have HS8' := Lib.hid hs8'; generalize q.getD k 0 = qk8 at hg8; clear hb8 hs8' hrw8)
                  all_goals go_wp2_with fail
                  all_goals
                    go_roundw
                    case rel =>
                      have hst := HSTEP.out d' HEX.out.1 HEX.out.2
                      have hsl := HS8'.out.setOther (B := G) (i := k) (by have := HRWD.out.lt; omega) (.int .u64 (d' : Int))
                      rw [HPR.out, HPP.out, Nat.mul_comm (pv 1000000000 y) d'] at hsl
                      exact ⟨_, k, _, _, _, _, _, rfl, by omega, rfl, rfl, hsl, hst, HRW8.out.store' k d' _ rfl, HBY8.out.setCell (p := ⟨G, k, none⟩) (by rw [← HSZ.out]; exact Nat.le_refl _) _⟩
                    case measure => simp [intOf]
end Go.Proofs.Kl
namespace Go.Proofs.Kl
open Go.RowKit
/-- divide, for any two magnitudes, the second one not 0. -/
theorem divide_any (a b : List Nat) (va vb : Value) (w : World) (ha : Good 1000000000 a) (hb : Good 1000000000 b) (hva : Sl .u64 w va a) (hvb : Sl .u64 w vb b) (h0 : 0 < pv 1000000000 b) (hla : a.length < 100000000) (hlb : b.length < 100000000) :
    Calls Tryz.prog 135 #[va, vb] w (RetSl2 .u64 (pcs 1000000000 (pv 1000000000 a / pv 1000000000 b)) (pcs 1000000000 (pv 1000000000 a % pv 1000000000 b)) w) := by
  rcases Nat.lt_or_ge (pv 1000000000 a) (pv 1000000000 b) with h | h
  · have := divide_less a b va vb w ha hb hva hvb h
    rw [Nat.div_eq_of_lt h, Nat.mod_eq_of_lt h, pcs_zero, pcs_pv (by decide) ha]
    exact this
  · rcases Nat.lt_or_ge b.length 2 with h2 | h2
    · obtain ⟨d, rfl⟩ : ∃ d, b = [d] := by
        cases b with
        | nil => simp [pv] at h0
        | cons d r => cases r with
          | nil => exact ⟨d, rfl⟩
          | cons _ _ => simp at h2; omega
      have hp : pv 1000000000 [d] = d := by simp [pv]
      have hd := hb.bel d (by simp)
      obtain ⟨A2, c, rfl, -⟩ := id hvb
      rw [hp] at h0 h ⊢
      exact divide_short a d va A2 c w ha h0 hd hva hvb h (by omega)
    · exact divide_long a b va vb w ha hb hva hvb h hla hlb h2
end Go.Proofs.Kl
