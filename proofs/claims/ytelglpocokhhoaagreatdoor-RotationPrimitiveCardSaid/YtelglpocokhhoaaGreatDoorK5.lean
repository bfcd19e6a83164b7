/- Part 5 of the proof: the contracts that the statement's proof uses. -/
import Derived.Test.YtelglpocokhhoaaGreatDoorK4
import Derived.Test.YtelglpocokhhoaaGreatDoorTie
import Derived.Test.YtelglpocokhhoaaGreatDoorCards
import Derived.SevenTiedAt
/- rotation: the functions with quaternions at a wrong quaternion. -/
namespace Go.Proofs.Kl
open Go.RowKit Go.Shelf
set_option maxHeartbeats 2000000 in
set_option maxRecDepth 100000 in
theorem Primitive_bad (a b c d : Int) (w : World) (h : qchk a b c d ≠ 0) :
    Calls Tryz.prog 23 #[qv a b c d] w (Ret (.tuple #[.agg #[.int .i64 0, .int .i64 0, .int .i64 0, .int .i64 0], .int .i64 (qchk a b c d)]) w) := by
  obtain ⟨R, hR⟩ : ∃ R, R = qchk a b c d := ⟨_, rfl⟩
  have HQ := Lib.hid (fun w' => QCheck_any a b c d w')
  rw [← hR] at h HQ ⊢
  clear hR
  have hb0 := ((Below.refl w.heap.size w).alloc (Nat.le_refl _) (.cells #[.int .i64 a, .int .i64 b, .int .i64 c, .int .i64 d] 22)).alloc (by simp) (.cells #[.int .i64 0, .int .i64 0, .int .i64 0, .int .i64 0] 22)
  have hk := World.alloc_heap_new (w.alloc (.cells #[.int .i64 a, .int .i64 b, .int .i64 c, .int .i64 d] 22)) (.cells #[.int .i64 0, .int .i64 0, .int .i64 0, .int .i64 0] 22)
  have hsz : (w.alloc (.cells #[.int .i64 a, .int .i64 b, .int .i64 c, .int .i64 d] 22)).heap.size = w.heap.size + 1 := by simp
  rw [hsz] at hk
  have HK := Lib.hid hk
  clear hk hsz
  go_enter Tryz.func23, Tryz.ntmps23
  go_wp2_with fail
  refine (HQ.out _).mono ?_
  rintro e w1 ⟨rfl, hb1⟩
  have hbw := below_trans hb0 hb1
  have hk1 := (hb1.block _ (heap_lt HK.out)).trans HK.out
  have HK1 := Lib.hid hk1
  have fz : ∀ i, w1.frozen? ⟨w.heap.size + 1, i, none⟩ = false := fun i => Lib.frozen_of_heap hk1 i
  have d0 := (Lib.cell_of_heap hk1 0).trans rfl
  have d1 := (Lib.cell_of_heap hk1 1).trans rfl
  have d2 := (Lib.cell_of_heap hk1 2).trans rfl
  have d3 := (Lib.cell_of_heap hk1 3).trans rfl
  clear hk1
  go_wp2_with fail
  have h1 := heap_setCell_same _ _ 0 _ _ (.int .i64 0) HK1.out
  have h2 := heap_setCell_same _ _ 1 _ _ (.int .i64 0) h1
  have h3 := heap_setCell_same _ _ 2 _ _ (.int .i64 0) h2
  have h4 := heap_setCell_same _ _ 3 _ _ (.int .i64 0) h3
  exact bodyPost_ret (v := .tuple #[.agg #[.int .i64 0, .int .i64 0, .int .i64 0, .int .i64 0], .int .i64 R]) (by simp [results, Tryz.results23, go_sem, Lib.cell_of_heap h4]) rfl ⟨rfl, ((((hbw.setCell (by simp) _).setCell (by simp) _).setCell (by simp) _).setCell (by simp) _)⟩
set_option maxHeartbeats 2000000 in
set_option maxRecDepth 100000 in
theorem Inverse_bad (a b c d : Int) (w : World) (h : qchk a b c d ≠ 0) :
    Calls Tryz.prog 24 #[qv a b c d] w (Ret (.tuple #[.agg #[.int .i64 0, .int .i64 0, .int .i64 0, .int .i64 0], .int .i64 (qchk a b c d)]) w) := by
  obtain ⟨R, hR⟩ : ∃ R, R = qchk a b c d := ⟨_, rfl⟩
  have HQ := Lib.hid (fun w' => QCheck_any a b c d w')
  rw [← hR] at h HQ ⊢
  clear hR
  have hb0 := ((Below.refl w.heap.size w).alloc (Nat.le_refl _) (.cells #[.int .i64 a, .int .i64 b, .int .i64 c, .int .i64 d] 22)).alloc (by simp) (.cells #[.int .i64 0, .int .i64 0, .int .i64 0, .int .i64 0] 22)
  have hk := World.alloc_heap_new (w.alloc (.cells #[.int .i64 a, .int .i64 b, .int .i64 c, .int .i64 d] 22)) (.cells #[.int .i64 0, .int .i64 0, .int .i64 0, .int .i64 0] 22)
  have hsz : (w.alloc (.cells #[.int .i64 a, .int .i64 b, .int .i64 c, .int .i64 d] 22)).heap.size = w.heap.size + 1 := by simp
  rw [hsz] at hk
  have HK := Lib.hid hk
  clear hk hsz
  go_enter Tryz.func24, Tryz.ntmps24
  go_wp2_with fail
  refine (HQ.out _).mono ?_
  rintro e w1 ⟨rfl, hb1⟩
  have hbw := below_trans hb0 hb1
  have hk1 := (hb1.block _ (heap_lt HK.out)).trans HK.out
  have HK1 := Lib.hid hk1
  have fz : ∀ i, w1.frozen? ⟨w.heap.size + 1, i, none⟩ = false := fun i => Lib.frozen_of_heap hk1 i
  have d0 := (Lib.cell_of_heap hk1 0).trans rfl
  have d1 := (Lib.cell_of_heap hk1 1).trans rfl
  have d2 := (Lib.cell_of_heap hk1 2).trans rfl
  have d3 := (Lib.cell_of_heap hk1 3).trans rfl
  clear hk1
  go_wp2_with fail
  have h1 := heap_setCell_same _ _ 0 _ _ (.int .i64 0) HK1.out
  have h2 := heap_setCell_same _ _ 1 _ _ (.int .i64 0) h1
  have h3 := heap_setCell_same _ _ 2 _ _ (.int .i64 0) h2
  have h4 := heap_setCell_same _ _ 3 _ _ (.int .i64 0) h3
  exact bodyPost_ret (v := .tuple #[.agg #[.int .i64 0, .int .i64 0, .int .i64 0, .int .i64 0], .int .i64 R]) (by simp [results, Tryz.results24, go_sem, Lib.cell_of_heap h4]) rfl ⟨rfl, ((((hbw.setCell (by simp) _).setCell (by simp) _).setCell (by simp) _).setCell (by simp) _)⟩
set_option maxHeartbeats 2000000 in
set_option maxRecDepth 100000 in
theorem Matrix_bad (a b c d : Int) (w : World) (h : qchk a b c d ≠ 0) :
    Calls Tryz.prog 25 #[qv a b c d] w (Ret (.tuple #[.agg #[s0, s0, s0, s0, s0, s0, s0, s0, s0], .int .i64 (qchk a b c d)]) w) := by
  obtain ⟨R, hR⟩ : ∃ R, R = qchk a b c d := ⟨_, rfl⟩
  have HQ := Lib.hid (fun w' => QCheck_any a b c d w')
  rw [← hR] at h HQ ⊢
  clear hR
  have hb0 := ((Below.refl w.heap.size w).alloc (Nat.le_refl _) (.cells #[.int .i64 a, .int .i64 b, .int .i64 c, .int .i64 d] 22)).alloc (by simp) (.cells #[s0, s0, s0, s0, s0, s0, s0, s0, s0] 43)
  have hk := World.alloc_heap_new (w.alloc (.cells #[.int .i64 a, .int .i64 b, .int .i64 c, .int .i64 d] 22)) (.cells #[s0, s0, s0, s0, s0, s0, s0, s0, s0] 43)
  have hsz : (w.alloc (.cells #[.int .i64 a, .int .i64 b, .int .i64 c, .int .i64 d] 22)).heap.size = w.heap.size + 1 := by simp
  rw [hsz] at hk
  have HK := Lib.hid hk
  clear hk hsz
  go_enter Tryz.func25, Tryz.ntmps25
  go_wp2_with fail
  refine (HQ.out _).mono ?_
  rintro e w1 ⟨rfl, hb1⟩
  have hbw := below_trans hb0 hb1
  have hk1 := (hb1.block _ (heap_lt HK.out)).trans HK.out
  have HK1 := Lib.hid hk1
  have fz : ∀ i, w1.frozen? ⟨w.heap.size + 1, i, none⟩ = false := fun i => Lib.frozen_of_heap hk1 i
  have d0 := (Lib.cell_of_heap hk1 0).trans rfl
  have d1 := (Lib.cell_of_heap hk1 1).trans rfl
  have d2 := (Lib.cell_of_heap hk1 2).trans rfl
  have d3 := (Lib.cell_of_heap hk1 3).trans rfl
  have d4 := (Lib.cell_of_heap hk1 4).trans rfl
  have d5 := (Lib.cell_of_heap hk1 5).trans rfl
  have d6 := (Lib.cell_of_heap hk1 6).trans rfl
  have d7 := (Lib.cell_of_heap hk1 7).trans rfl
  have d8 := (Lib.cell_of_heap hk1 8).trans rfl
  clear hk1
  go_wp2_with fail
  have h1 := heap_setCell_same _ _ 0 _ _ (s0) HK1.out
  have h2 := heap_setCell_same _ _ 1 _ _ (s0) h1
  have h3 := heap_setCell_same _ _ 2 _ _ (s0) h2
  have h4 := heap_setCell_same _ _ 3 _ _ (s0) h3
  have h5 := heap_setCell_same _ _ 4 _ _ (s0) h4
  have h6 := heap_setCell_same _ _ 5 _ _ (s0) h5
  have h7 := heap_setCell_same _ _ 6 _ _ (s0) h6
  have h8 := heap_setCell_same _ _ 7 _ _ (s0) h7
  have h9 := heap_setCell_same _ _ 8 _ _ (s0) h8
  exact bodyPost_ret (v := .tuple #[.agg #[s0, s0, s0, s0, s0, s0, s0, s0, s0], .int .i64 R]) (by simp [results, Tryz.results25, go_sem, Lib.cell_of_heap h9]) rfl ⟨rfl, (((((((((hbw.setCell (by simp) _).setCell (by simp) _).setCell (by simp) _).setCell (by simp) _).setCell (by simp) _).setCell (by simp) _).setCell (by simp) _).setCell (by simp) _).setCell (by simp) _)⟩
set_option maxHeartbeats 2000000 in
set_option maxRecDepth 100000 in
theorem Axis_bad (a b c d : Int) (w : World) (h : qchk a b c d ≠ 0) :
    Calls Tryz.prog 18 #[qv a b c d] w (Ret (.tuple #[.agg #[s0, s0, s0], .int .i64 (qchk a b c d)]) w) := by
  obtain ⟨R, hR⟩ : ∃ R, R = qchk a b c d := ⟨_, rfl⟩
  have HQ := Lib.hid (fun w' => QCheck_any a b c d w')
  rw [← hR] at h HQ ⊢
  clear hR
  have hb0 := ((Below.refl w.heap.size w).alloc (Nat.le_refl _) (.cells #[.int .i64 a, .int .i64 b, .int .i64 c, .int .i64 d] 22)).alloc (by simp) (.cells #[s0, s0, s0] 41)
  have hk := World.alloc_heap_new (w.alloc (.cells #[.int .i64 a, .int .i64 b, .int .i64 c, .int .i64 d] 22)) (.cells #[s0, s0, s0] 41)
  have hsz : (w.alloc (.cells #[.int .i64 a, .int .i64 b, .int .i64 c, .int .i64 d] 22)).heap.size = w.heap.size + 1 := by simp
  rw [hsz] at hk
  have HK := Lib.hid hk
  clear hk hsz
  go_enter Tryz.func18, Tryz.ntmps18
  go_wp2_with fail
  refine (HQ.out _).mono ?_
  rintro e w1 ⟨rfl, hb1⟩
  have hbw := below_trans hb0 hb1
  have hk1 := (hb1.block _ (heap_lt HK.out)).trans HK.out
  have HK1 := Lib.hid hk1
  have fz : ∀ i, w1.frozen? ⟨w.heap.size + 1, i, none⟩ = false := fun i => Lib.frozen_of_heap hk1 i
  have d0 := (Lib.cell_of_heap hk1 0).trans rfl
  have d1 := (Lib.cell_of_heap hk1 1).trans rfl
  have d2 := (Lib.cell_of_heap hk1 2).trans rfl
  clear hk1
  go_wp2_with fail
  have h1 := heap_setCell_same _ _ 0 _ _ (s0) HK1.out
  have h2 := heap_setCell_same _ _ 1 _ _ (s0) h1
  have h3 := heap_setCell_same _ _ 2 _ _ (s0) h2
  exact bodyPost_ret (v := .tuple #[.agg #[s0, s0, s0], .int .i64 R]) (by simp [results, Tryz.results18, go_sem, Lib.cell_of_heap h3]) rfl ⟨rfl, (((hbw.setCell (by simp) _).setCell (by simp) _).setCell (by simp) _)⟩
set_option maxHeartbeats 2000000 in
set_option maxRecDepth 100000 in
theorem Order_bad (a b c d : Int) (w : World) (h : qchk a b c d ≠ 0) :
    Calls Tryz.prog 13 #[qv a b c d] w (Ret (.tuple #[.int .i64 0, .bool false, .int .i64 (qchk a b c d)]) w) := by
  obtain ⟨R, hR⟩ : ∃ R, R = qchk a b c d := ⟨_, rfl⟩
  have HQ := Lib.hid (fun w' => QCheck_any a b c d w')
  rw [← hR] at h HQ ⊢
  clear hR
  have hb0 := ((Below.refl w.heap.size w).alloc (Nat.le_refl _) (.cells #[.int .i64 a, .int .i64 b, .int .i64 c, .int .i64 d] 22))
  go_enter Tryz.func13, Tryz.ntmps13
  go_wp2_with fail
  refine (HQ.out _).mono ?_
  rintro e w1 ⟨rfl, hb1⟩
  have hbw := below_trans hb0 hb1
  go_wp2_with fail
  go_ret3
  exact ⟨rfl, hbw⟩
set_option maxHeartbeats 2000000 in
set_option maxRecDepth 100000 in
theorem Apply_bad (a b c d : Int) (x y z : List UInt8) (w : World) (hE : Env w) (hx : x.length ≤ 4000000000) (hy : y.length ≤ 4000000000) (hz : z.length ≤ 4000000000) (E : Int) (hEq : E = if qchk a b c d = 0 then numsR [x, y, z] else qchk a b c d) (h : E ≠ 0) :
    Calls Tryz.prog 19 #[qv a b c d, .agg #[.string (tx x), .string (tx y), .string (tx z)]] w (Ret (.tuple #[.agg #[s0, s0, s0], .int .i64 E]) w) := by
  have HQ := Lib.hid (fun w' hw => both_any a b c d x y z w' hw hx hy hz)
  rw [← hEq] at HQ
  have HE := Lib.hid hE
  clear hEq hx hy hz hE
  obtain ⟨X, hX⟩ : ∃ X, X = tx x := ⟨_, rfl⟩
  obtain ⟨Y, hY⟩ : ∃ X, X = tx y := ⟨_, rfl⟩
  obtain ⟨Z, hZ⟩ : ∃ X, X = tx z := ⟨_, rfl⟩
  rw [← hX, ← hY, ← hZ] at HQ ⊢
  clear hX hY hZ
  have hb0 := (((Below.refl w.heap.size w).alloc (Nat.le_refl _) (.cells #[.int .i64 a, .int .i64 b, .int .i64 c, .int .i64 d] 22)).alloc (by simp) (.cells #[.string X, .string Y, .string Z] 41)).alloc (by simp; omega) (.cells #[s0, s0, s0] 41)
  have hk := World.alloc_heap_new ((w.alloc (.cells #[.int .i64 a, .int .i64 b, .int .i64 c, .int .i64 d] 22)).alloc (.cells #[.string X, .string Y, .string Z] 41)) (.cells #[s0, s0, s0] 41)
  have hsz : ((w.alloc (.cells #[.int .i64 a, .int .i64 b, .int .i64 c, .int .i64 d] 22)).alloc (.cells #[.string X, .string Y, .string Z] 41)).heap.size = w.heap.size + 1 + 1 := by simp
  rw [hsz] at hk
  have HK := Lib.hid hk
  clear hk hsz
  go_enter Tryz.func19, Tryz.ntmps19
  go_wp2_with fail
  refine (HQ.out _ (HE.out.below hb0)).mono ?_
  rintro e w1 ⟨rfl, hb1⟩
  have hbw := below_trans hb0 hb1
  have hk1 := (hb1.block _ (heap_lt HK.out)).trans HK.out
  have HK1 := Lib.hid hk1
  have fz : ∀ i, w1.frozen? ⟨w.heap.size + 1 + 1, i, none⟩ = false := fun i => Lib.frozen_of_heap hk1 i
  have d0 := (Lib.cell_of_heap hk1 0).trans rfl
  have d1 := (Lib.cell_of_heap hk1 1).trans rfl
  have d2 := (Lib.cell_of_heap hk1 2).trans rfl
  clear hk1
  go_wp2_with fail
  have h1 := heap_setCell_same _ _ 0 _ _ (s0) HK1.out
  have h2 := heap_setCell_same _ _ 1 _ _ (s0) h1
  have h3 := heap_setCell_same _ _ 2 _ _ (s0) h2
  exact bodyPost_ret (v := .tuple #[.agg #[s0, s0, s0], .int .i64 E]) (by simp [results, Tryz.results19, go_sem, Lib.cell_of_heap h3]) rfl ⟨rfl, (((hbw.setCell (by simp; omega) _).setCell (by simp; omega) _).setCell (by simp; omega) _)⟩
set_option maxHeartbeats 2000000 in
set_option maxRecDepth 100000 in
theorem About_bad (a b c d : Int) (x y z : List UInt8) (w : World) (hE : Env w) (hx : x.length ≤ 4000000000) (hy : y.length ≤ 4000000000) (hz : z.length ≤ 4000000000) (E : Int) (hEq : E = if qchk a b c d = 0 then numsR [x, y, z] else qchk a b c d) (h : E ≠ 0) :
    Calls Tryz.prog 16 #[qv a b c d, .agg #[.string (tx x), .string (tx y), .string (tx z)]] w (Ret (.tuple #[.agg #[s0, s0, s0, s0, s0, s0, s0, s0, s0, s0, s0, s0], .int .i64 E]) w) := by
  have HQ := Lib.hid (fun w' hw => both_any a b c d x y z w' hw hx hy hz)
  rw [← hEq] at HQ
  have HE := Lib.hid hE
  clear hEq hx hy hz hE
  obtain ⟨X, hX⟩ : ∃ X, X = tx x := ⟨_, rfl⟩
  obtain ⟨Y, hY⟩ : ∃ X, X = tx y := ⟨_, rfl⟩
  obtain ⟨Z, hZ⟩ : ∃ X, X = tx z := ⟨_, rfl⟩
  rw [← hX, ← hY, ← hZ] at HQ ⊢
  clear hX hY hZ
  have hb0 := (((Below.refl w.heap.size w).alloc (Nat.le_refl _) (.cells #[.int .i64 a, .int .i64 b, .int .i64 c, .int .i64 d] 22)).alloc (by simp) (.cells #[.string X, .string Y, .string Z] 41)).alloc (by simp; omega) (.cells #[s0, s0, s0, s0, s0, s0, s0, s0, s0, s0, s0, s0] 45)
  have hk := World.alloc_heap_new ((w.alloc (.cells #[.int .i64 a, .int .i64 b, .int .i64 c, .int .i64 d] 22)).alloc (.cells #[.string X, .string Y, .string Z] 41)) (.cells #[s0, s0, s0, s0, s0, s0, s0, s0, s0, s0, s0, s0] 45)
  have hsz : ((w.alloc (.cells #[.int .i64 a, .int .i64 b, .int .i64 c, .int .i64 d] 22)).alloc (.cells #[.string X, .string Y, .string Z] 41)).heap.size = w.heap.size + 1 + 1 := by simp
  rw [hsz] at hk
  have HK := Lib.hid hk
  clear hk hsz
  go_enter Tryz.func16, Tryz.ntmps16
  go_wp2_with fail
  refine (HQ.out _ (HE.out.below hb0)).mono ?_
  rintro e w1 ⟨rfl, hb1⟩
  have hbw := below_trans hb0 hb1
  have hk1 := (hb1.block _ (heap_lt HK.out)).trans HK.out
  have HK1 := Lib.hid hk1
  have fz : ∀ i, w1.frozen? ⟨w.heap.size + 1 + 1, i, none⟩ = false := fun i => Lib.frozen_of_heap hk1 i
  have d0 := (Lib.cell_of_heap hk1 0).trans rfl
  have d1 := (Lib.cell_of_heap hk1 1).trans rfl
  have d2 := (Lib.cell_of_heap hk1 2).trans rfl
  have d3 := (Lib.cell_of_heap hk1 3).trans rfl
  have d4 := (Lib.cell_of_heap hk1 4).trans rfl
  have d5 := (Lib.cell_of_heap hk1 5).trans rfl
  have d6 := (Lib.cell_of_heap hk1 6).trans rfl
  have d7 := (Lib.cell_of_heap hk1 7).trans rfl
  have d8 := (Lib.cell_of_heap hk1 8).trans rfl
  have d9 := (Lib.cell_of_heap hk1 9).trans rfl
  have d10 := (Lib.cell_of_heap hk1 10).trans rfl
  have d11 := (Lib.cell_of_heap hk1 11).trans rfl
  clear hk1
  go_wp2_with fail
  have h1 := heap_setCell_same _ _ 0 _ _ (s0) HK1.out
  have h2 := heap_setCell_same _ _ 1 _ _ (s0) h1
  have h3 := heap_setCell_same _ _ 2 _ _ (s0) h2
  have h4 := heap_setCell_same _ _ 3 _ _ (s0) h3
  have h5 := heap_setCell_same _ _ 4 _ _ (s0) h4
  have h6 := heap_setCell_same _ _ 5 _ _ (s0) h5
  have h7 := heap_setCell_same _ _ 6 _ _ (s0) h6
  have h8 := heap_setCell_same _ _ 7 _ _ (s0) h7
  have h9 := heap_setCell_same _ _ 8 _ _ (s0) h8
  have h10 := heap_setCell_same _ _ 9 _ _ (s0) h9
  have h11 := heap_setCell_same _ _ 10 _ _ (s0) h10
  have h12 := heap_setCell_same _ _ 11 _ _ (s0) h11
  exact bodyPost_ret (v := .tuple #[.agg #[s0, s0, s0, s0, s0, s0, s0, s0, s0, s0, s0, s0], .int .i64 E]) (by simp [results, Tryz.results16, go_sem, Lib.cell_of_heap h12]) rfl ⟨rfl, ((((((((((((hbw.setCell (by simp; omega) _).setCell (by simp; omega) _).setCell (by simp; omega) _).setCell (by simp; omega) _).setCell (by simp; omega) _).setCell (by simp; omega) _).setCell (by simp; omega) _).setCell (by simp; omega) _).setCell (by simp; omega) _).setCell (by simp; omega) _).setCell (by simp; omega) _).setCell (by simp; omega) _)⟩
end Go.Proofs.Kl
/- rotation: checks, Same, Compose at a wrong quaternion; RotationChecks returns true. -/
namespace Go.Proofs.Kl
open Go.RowKit Go.Shelf
/-- what lies in some blocks. -/
def KBl (w : World) (L : List (Nat × Obj)) : Prop := ∀ p, p ∈ L → w.heap[p.1]? = some p.2
theorem KBl.below {w w' : World} {L : List (Nat × Obj)} (h : KBl w L) (hb : Below w.heap.size w w') : KBl w' L := fun p hp => (hb.block _ (heap_lt (h p hp))).trans (h p hp)
theorem KBl.alloc {w : World} {L : List (Nat × Obj)} (h : KBl w L) (o : Obj) : KBl (w.alloc o) ((w.heap.size, o) :: L) := by
  intro p hp
  rcases List.mem_cons.1 hp with e | e
  · subst e; exact World.alloc_heap_new w o
  · exact heap_alloc_old _ (h p e)
theorem KBl.cell {w : World} {L : List (Nat × Obj)} (h : KBl w L) {b : Nat} {cs : Array Value} {t : TypeId} (hm : (b, Obj.cells cs t (0, 0)) ∈ L) (i : Nat) : w.cell? ⟨b, i, none⟩ = cs[i]? := (Lib.cell_of_heap (h _ hm) i).trans rfl
theorem KBl.nil (w : World) : KBl w [] := fun _ h => by cases h
def both2 (x y : Int) : Int := if x = 0 then y else x
set_option maxHeartbeats 2000000 in
set_option maxRecDepth 100000 in
theorem checks_two (a b c d a' b' c' d' : Int) (g : Nat) (w : World) (hg : w.heap[g]? = some (.cells #[.int .i64 a, .int .i64 b, .int .i64 c, .int .i64 d, .int .i64 a', .int .i64 b', .int .i64 c', .int .i64 d'] 22 (0, 0))) :
    Calls Tryz.prog 65 #[.slice (some ⟨g, 0, none⟩) 2 2] w (Ret (.int .i64 (both2 (qchk a b c d) (qchk a' b' c' d'))) w) := by
  have H1 := Lib.hid (fun w' => QCheck_any a b c d w')
  have H2 := Lib.hid (fun w' => QCheck_any a' b' c' d' w')
  obtain ⟨R, hR⟩ : ∃ R, R = qchk a b c d := ⟨_, rfl⟩
  obtain ⟨R', hR'⟩ : ∃ R, R = qchk a' b' c' d' := ⟨_, rfl⟩
  rw [← hR] at H1 ⊢
  rw [← hR'] at H2 ⊢
  obtain ⟨V, hV⟩ : ∃ V, V = both2 R R' := ⟨_, rfl⟩
  rw [← hV]
  have HV := Lib.hid hV
  have HG := Lib.hid hg
  clear hR hR' hV hg
  go_enter Tryz.func65, Tryz.ntmps65
  go_wp2_with fail
  go_loopw [8] (fun i wr => ∃ (wq : World) (k : Nat), wq = wr ∧ k ≤ 2 ∧ i = .int .i64 (k : Int) ∧ (0 < k → R = 0) ∧ (1 < k → R' = 0) ∧ Below w.heap.size w wq) (fun i _ => (3 - intOf i).toNat)
  case atStart => exact ⟨_, 0, rfl, by omega, rfl, fun h => by omega, fun h => by omega, Below.refl _ _⟩
  case round =>
    obtain ⟨wr, k, rfl, hk, rfl, hr1, hr2, hbr⟩ := hrel
    have hk8 := (hbr.block _ (heap_lt HG.out)).trans HG.out
    by_cases hlt : k < 2
    · rcases (show k = 0 ∨ k = 1 by omega) with rfl | rfl
      · have x0 := (Lib.cell_of_heap hk8 0).trans rfl
        have x1 := (Lib.cell_of_heap hk8 1).trans rfl
        have x2 := (Lib.cell_of_heap hk8 2).trans rfl
        have x3 := (Lib.cell_of_heap hk8 3).trans rfl
        clear hk8 hr1 hr2 hk hlt
        have hba := hbr.alloc hbr.size (.cells #[.int .i64 a, .int .i64 b, .int .i64 c, .int .i64 d] 22)
        go_wp2_with fail
        refine (H1.out _).mono ?_
        rintro e w1 ⟨rfl, hb1⟩
        have hbw := below_trans hba hb1
        by_cases h0 : R = 0
        · subst h0
          go_wp2_with fail
          go_roundw
          · exact ⟨_, 1, rfl, by decide, rfl, by simp, by simp, hbw⟩
          · simp only [intOf]; omega
        · have hv : V = R := by rw [HV.out]; exact if_neg h0
          subst hv
          clear HV
          go_wp2_with fail
          go_ret
          exact ⟨rfl, hbw⟩
      · have h0 := hr1 (by omega)
        subst h0
        have hv : V = R' := by rw [HV.out]; exact if_pos rfl
        subst hv
        clear HV
        have x0 := (Lib.cell_of_heap hk8 4).trans rfl
        have x1 := (Lib.cell_of_heap hk8 5).trans rfl
        have x2 := (Lib.cell_of_heap hk8 6).trans rfl
        have x3 := (Lib.cell_of_heap hk8 7).trans rfl
        clear hk8 hr1 hr2 hk hlt
        have hba := hbr.alloc hbr.size (.cells #[.int .i64 a', .int .i64 b', .int .i64 c', .int .i64 d'] 22)
        go_wp2_with fail
        refine (H2.out _).mono ?_
        rintro e w1 ⟨rfl, hb1⟩
        have hbw := below_trans hba hb1
        by_cases h0 : V = 0
        · subst h0
          go_wp2_with fail
          go_roundw
          · exact ⟨_, 2, rfl, by decide, rfl, by simp, by simp, hbw⟩
          · simp only [intOf]; omega
        · go_wp2_with fail
          go_ret
          exact ⟨rfl, hbw⟩
    · obtain rfl : k = 2 := by omega
      have h0 := hr1 (by omega)
      have h1 := hr2 (by omega)
      subst h0 h1
      have hv : V = 0 := HV.out
      subst hv
      clear HV hk8 hr1 hr2 hk hlt
      go_wp2_with fail
      go_ret
      exact ⟨rfl, hbr⟩
set_option maxHeartbeats 2000000 in
set_option maxRecDepth 100000 in
theorem Same_bad (a b c d a' b' c' d' : Int) (w : World) (h : both2 (qchk a b c d) (qchk a' b' c' d') ≠ 0) :
    Calls Tryz.prog 27 #[qv a b c d, qv a' b' c' d'] w (Ret (.tuple #[.bool false, .int .i64 (both2 (qchk a b c d) (qchk a' b' c' d'))]) w) := by
  obtain ⟨R, hR⟩ : ∃ R, R = both2 (qchk a b c d) (qchk a' b' c' d') := ⟨_, rfl⟩
  have HQ := Lib.hid (fun g w' h => checks_two a b c d a' b' c' d' g w' h)
  rw [← hR] at h HQ ⊢
  clear hR
  have hb0 := ((((Below.refl w.heap.size w).alloc (Nat.le_refl _) (.cells #[.int .i64 a, .int .i64 b, .int .i64 c, .int .i64 d] 22)).alloc (by simp) (.cells #[.int .i64 a', .int .i64 b', .int .i64 c', .int .i64 d'] 22)).alloc (by simp; omega) (.cells #[.int .i64 a, .int .i64 b, .int .i64 c, .int .i64 d, .int .i64 a', .int .i64 b', .int .i64 c', .int .i64 d'] 22))
  have hg : (((w.alloc (.cells #[.int .i64 a, .int .i64 b, .int .i64 c, .int .i64 d] 22)).alloc (.cells #[.int .i64 a', .int .i64 b', .int .i64 c', .int .i64 d'] 22)).alloc (.cells #[.int .i64 a, .int .i64 b, .int .i64 c, .int .i64 d, .int .i64 a', .int .i64 b', .int .i64 c', .int .i64 d'] 22)).heap[w.heap.size + 1 + 1]? = some (.cells #[.int .i64 a, .int .i64 b, .int .i64 c, .int .i64 d, .int .i64 a', .int .i64 b', .int .i64 c', .int .i64 d'] 22 (0, 0)) := by
    have := World.alloc_heap_new ((w.alloc (.cells #[.int .i64 a, .int .i64 b, .int .i64 c, .int .i64 d] 22)).alloc (.cells #[.int .i64 a', .int .i64 b', .int .i64 c', .int .i64 d'] 22)) (.cells #[.int .i64 a, .int .i64 b, .int .i64 c, .int .i64 d, .int .i64 a', .int .i64 b', .int .i64 c', .int .i64 d'] 22)
    simpa using this
  have HG := Lib.hid hg
  clear hg
  go_enter Tryz.func27, Tryz.ntmps27
  go_wp2_with fail
  refine (HQ.out _ _ HG.out).mono ?_
  rintro e w1 ⟨rfl, hb1⟩
  have hbw := below_trans hb0 hb1
  go_wp2_with fail
  go_ret2
  exact ⟨rfl, hbw⟩
set_option maxHeartbeats 2000000 in
set_option maxRecDepth 100000 in
theorem Compose_bad (a b c d a' b' c' d' : Int) (w : World) (h : both2 (qchk a b c d) (qchk a' b' c' d') ≠ 0) :
    Calls Tryz.prog 28 #[qv a b c d, qv a' b' c' d'] w (Ret (.tuple #[qv 0 0 0 0, .int .i64 (both2 (qchk a b c d) (qchk a' b' c' d'))]) w) := by
  obtain ⟨R, hR⟩ : ∃ R, R = both2 (qchk a b c d) (qchk a' b' c' d') := ⟨_, rfl⟩
  have HQ := Lib.hid (fun g w' h => checks_two a b c d a' b' c' d' g w' h)
  rw [← hR] at h HQ ⊢
  clear hR
  have hb0 := (((((Below.refl w.heap.size w).alloc (Nat.le_refl _) (.cells #[.int .i64 a, .int .i64 b, .int .i64 c, .int .i64 d] 22)).alloc (by simp) (.cells #[.int .i64 a', .int .i64 b', .int .i64 c', .int .i64 d'] 22)).alloc (by simp; omega) (.cells #[.int .i64 0, .int .i64 0, .int .i64 0, .int .i64 0] 22)).alloc (by simp; omega) (.cells #[.int .i64 a, .int .i64 b, .int .i64 c, .int .i64 d, .int .i64 a', .int .i64 b', .int .i64 c', .int .i64 d'] 22))
  have hg : ((((w.alloc (.cells #[.int .i64 a, .int .i64 b, .int .i64 c, .int .i64 d] 22)).alloc (.cells #[.int .i64 a', .int .i64 b', .int .i64 c', .int .i64 d'] 22)).alloc (.cells #[.int .i64 0, .int .i64 0, .int .i64 0, .int .i64 0] 22)).alloc (.cells #[.int .i64 a, .int .i64 b, .int .i64 c, .int .i64 d, .int .i64 a', .int .i64 b', .int .i64 c', .int .i64 d'] 22)).heap[w.heap.size + 1 + 1 + 1]? = some (.cells #[.int .i64 a, .int .i64 b, .int .i64 c, .int .i64 d, .int .i64 a', .int .i64 b', .int .i64 c', .int .i64 d'] 22 (0, 0)) := by
    have := World.alloc_heap_new (((w.alloc (.cells #[.int .i64 a, .int .i64 b, .int .i64 c, .int .i64 d] 22)).alloc (.cells #[.int .i64 a', .int .i64 b', .int .i64 c', .int .i64 d'] 22)).alloc (.cells #[.int .i64 0, .int .i64 0, .int .i64 0, .int .i64 0] 22)) (.cells #[.int .i64 a, .int .i64 b, .int .i64 c, .int .i64 d, .int .i64 a', .int .i64 b', .int .i64 c', .int .i64 d'] 22)
    simpa using this
  have hk : ((((w.alloc (.cells #[.int .i64 a, .int .i64 b, .int .i64 c, .int .i64 d] 22)).alloc (.cells #[.int .i64 a', .int .i64 b', .int .i64 c', .int .i64 d'] 22)).alloc (.cells #[.int .i64 0, .int .i64 0, .int .i64 0, .int .i64 0] 22)).alloc (.cells #[.int .i64 a, .int .i64 b, .int .i64 c, .int .i64 d, .int .i64 a', .int .i64 b', .int .i64 c', .int .i64 d'] 22)).heap[w.heap.size + 1 + 1]? = some (.cells #[.int .i64 0, .int .i64 0, .int .i64 0, .int .i64 0] 22 (0, 0)) := by
    have := heap_alloc_old (.cells #[.int .i64 a, .int .i64 b, .int .i64 c, .int .i64 d, .int .i64 a', .int .i64 b', .int .i64 c', .int .i64 d'] 22) (World.alloc_heap_new ((w.alloc (.cells #[.int .i64 a, .int .i64 b, .int .i64 c, .int .i64 d] 22)).alloc (.cells #[.int .i64 a', .int .i64 b', .int .i64 c', .int .i64 d'] 22)) (.cells #[.int .i64 0, .int .i64 0, .int .i64 0, .int .i64 0] 22))
    simpa using this
  have HG := Lib.hid hg
  have HK := Lib.hid hk
  clear hg hk
  go_enter Tryz.func28, Tryz.ntmps28
  go_wp2_with fail
  refine (HQ.out _ _ HG.out).mono ?_
  rintro e w1 ⟨rfl, hb1⟩
  have hbw := below_trans hb0 hb1
  have hk1 := (hb1.block _ (heap_lt HK.out)).trans HK.out
  have HK1 := Lib.hid hk1
  have fz : ∀ i, w1.frozen? ⟨w.heap.size + 1 + 1, i, none⟩ = false := fun i => Lib.frozen_of_heap hk1 i
  have d0 := (Lib.cell_of_heap hk1 0).trans rfl
  have d1 := (Lib.cell_of_heap hk1 1).trans rfl
  have d2 := (Lib.cell_of_heap hk1 2).trans rfl
  have d3 := (Lib.cell_of_heap hk1 3).trans rfl
  clear hk1
  go_wp2_with fail
  have h1 := heap_setCell_same _ _ 0 _ _ (.int .i64 0) HK1.out
  have h2 := heap_setCell_same _ _ 1 _ _ (.int .i64 0) h1
  have h3 := heap_setCell_same _ _ 2 _ _ (.int .i64 0) h2
  have h4 := heap_setCell_same _ _ 3 _ _ (.int .i64 0) h3
  exact bodyPost_ret (v := .tuple #[qv 0 0 0 0, .int .i64 R]) (by simp [results, Tryz.results28, go_sem, Lib.cell_of_heap h4]) rfl ⟨rfl, (((hbw.setCell (by simp; omega) _).setCell (by simp; omega) _).setCell (by simp; omega) _).setCell (by simp; omega) _⟩
theorem zero41 (W : World) : (Op.equalIn 10000 41 (.agg #[s0, s0, s0]) (.agg #[s0, s0, s0])).run Tryz.prog W = .ok true W := by
  kernel_rfl
theorem zero43 (W : World) : (Op.equalIn 10000 43 (.agg #[s0, s0, s0, s0, s0, s0, s0, s0, s0]) (.agg #[s0, s0, s0, s0, s0, s0, s0, s0, s0])).run Tryz.prog W = .ok true W := by
  kernel_rfl
theorem zero45 (W : World) : (Op.equalIn 10000 45 (.agg #[s0, s0, s0, s0, s0, s0, s0, s0, s0, s0, s0, s0]) (.agg #[s0, s0, s0, s0, s0, s0, s0, s0, s0, s0, s0, s0])).run Tryz.prog W = .ok true W := by
  kernel_rfl
theorem nums_empty : numsR [[], [], []] = 2 := if_neg (fun h => by
  obtain ⟨q, hq, _⟩ := h 0 (by decide)
  exact rt_ne_nil q hq.symm)
set_option maxHeartbeats 4000000 in
set_option maxRecDepth 100000 in
theorem Checks_any (a b c d a' b' c' d' : Int) (w : World) (hE : Env w) : Calls Tryz.prog 5 #[qv a b c d, qv a' b' c' d'] w (Ret (.bool true) w) := by
  have Z1 := zero41
  have Z2 := zero43
  have Z3 := zero45
  obtain ⟨R, hR⟩ : ∃ R, R = qchk a b c d := ⟨_, rfl⟩
  obtain ⟨R', hR'⟩ : ∃ R, R = qchk a' b' c' d' := ⟨_, rfl⟩
  have HL := Lib.hid (fun w' => Lcheck_any a b c d w')
  have HL' := Lib.hid (fun w' => Lcheck_any a' b' c' d' w')
  have HQ := Lib.hid (fun w' => QCheck_any a b c d w')
  have HP := Lib.hid (fun w' h => Primitive_bad a b c d w' h)
  have HI := Lib.hid (fun w' h => Inverse_bad a b c d w' h)
  have HO := Lib.hid (fun w' h => Order_bad a b c d w' h)
  have HM := Lib.hid (fun w' h => Matrix_bad a b c d w' h)
  have HX := Lib.hid (fun w' h => Axis_bad a b c d w' h)
  have HA := Lib.hid (fun w' hw E h1 h2 => Apply_bad a b c d [] [] [] w' hw (by decide) (by decide) (by decide) E h1 h2)
  have HB := Lib.hid (fun w' hw E h1 h2 => About_bad a b c d [] [] [] w' hw (by decide) (by decide) (by decide) E h1 h2)
  have HB' := Lib.hid (fun w' hw E h1 h2 => About_bad a' b' c' d' [] [] [] w' hw (by decide) (by decide) (by decide) E h1 h2)
  have HC : Hid (∀ w', Env w' → R ≠ 0 → Calls Tryz.prog 26 #[qv a b c d] w' (Ret (.tuple #[s0, .int .i64 R]) w')) := Lib.hid (fun w' hw h => by
    have := Cosine_any a b c d w' hw
    rw [if_neg (by rw [← hR]; exact h), ← hR] at this
    exact this)
  have HS := Lib.hid (fun w' h => Same_bad a b c d a' b' c' d' w' h)
  have HK := Lib.hid (fun w' h => Compose_bad a b c d a' b' c' d' w' h)
  rw [nums_empty] at HA HB HB'
  rw [← hR] at HL HQ HP HI HO HM HX HA HB HS HK
  rw [← hR'] at HL' HB' HS HK
  clear hR hR'
  have HE := Lib.hid hE
  clear hE
  have hb0 := ((Below.refl w.heap.size w).alloc (Nat.le_refl _) (.cells #[.int .i64 a, .int .i64 b, .int .i64 c, .int .i64 d] 22)).alloc (by simp) (.cells #[.int .i64 a', .int .i64 b', .int .i64 c', .int .i64 d'] 22)
  have K0 : Hid (KBl ((w.alloc (.cells #[.int .i64 a, .int .i64 b, .int .i64 c, .int .i64 d] 22)).alloc (.cells #[.int .i64 a', .int .i64 b', .int .i64 c', .int .i64 d'] 22)) [(w.heap.size, .cells #[.int .i64 a, .int .i64 b, .int .i64 c, .int .i64 d] 22), (w.heap.size + 1, .cells #[.int .i64 a', .int .i64 b', .int .i64 c', .int .i64 d'] 22)]) := Lib.hid (by
    have := ((KBl.nil w).alloc (.cells #[.int .i64 a, .int .i64 b, .int .i64 c, .int .i64 d] 22)).alloc (.cells #[.int .i64 a', .int .i64 b', .int .i64 c', .int .i64 d'] 22)
    intro p hp
    refine this p ?_
    simpa [or_comm] using hp)
  go_enter Tryz.func5, Tryz.ntmps5
  go_wp2_with fail
  refine (known_any _ (HE.out.below hb0)).mono ?_
  rintro e w1 ⟨rfl, hb1⟩
  have hw1 := below_trans hb0 hb1
  have K1 := Lib.hid (K0.out.below hb1)
  have xa0 := (K1.out.cell (b := w.heap.size) (cs := #[.int .i64 a, .int .i64 b, .int .i64 c, .int .i64 d]) (t := 22) (by simp) 0).trans rfl
  have xa1 := (K1.out.cell (b := w.heap.size) (cs := #[.int .i64 a, .int .i64 b, .int .i64 c, .int .i64 d]) (t := 22) (by simp) 1).trans rfl
  have xa2 := (K1.out.cell (b := w.heap.size) (cs := #[.int .i64 a, .int .i64 b, .int .i64 c, .int .i64 d]) (t := 22) (by simp) 2).trans rfl
  have xa3 := (K1.out.cell (b := w.heap.size) (cs := #[.int .i64 a, .int .i64 b, .int .i64 c, .int .i64 d]) (t := 22) (by simp) 3).trans rfl
  go_wp2_with fail
  refine (HL.out _).mono ?_
  rintro e w2 ⟨rfl, hb2⟩
  have hw2 := below_trans hw1 hb2
  have K2 := Lib.hid (K1.out.below hb2)
  clear xa0 xa1 xa2 xa3
  have xa0 := (K2.out.cell (b := w.heap.size) (cs := #[.int .i64 a, .int .i64 b, .int .i64 c, .int .i64 d]) (t := 22) (by simp) 0).trans rfl
  have xa1 := (K2.out.cell (b := w.heap.size) (cs := #[.int .i64 a, .int .i64 b, .int .i64 c, .int .i64 d]) (t := 22) (by simp) 1).trans rfl
  have xa2 := (K2.out.cell (b := w.heap.size) (cs := #[.int .i64 a, .int .i64 b, .int .i64 c, .int .i64 d]) (t := 22) (by simp) 2).trans rfl
  have xa3 := (K2.out.cell (b := w.heap.size) (cs := #[.int .i64 a, .int .i64 b, .int .i64 c, .int .i64 d]) (t := 22) (by simp) 3).trans rfl
  go_wp2_with fail
  refine (HQ.out _).mono ?_
  rintro e w3 ⟨rfl, hb3⟩
  have hw3 := below_trans hw2 hb3
  have K3 := Lib.hid (K2.out.below hb3)
  clear xa0 xa1 xa2 xa3
  have K4 := Lib.hid (K3.out.alloc (.cells #[.int .i64 0, .int .i64 0, .int .i64 0, .int .i64 0] 22))
  have hw4 := hw3.alloc hw3.size (.cells #[.int .i64 0, .int .i64 0, .int .i64 0, .int .i64 0] 22)
  clear K0 K1 K2 K3 hb0 hw1 hw2 hw3 hb1 hb2 hb3
  by_cases h1 : R = 0
  · subst h1
    have n := K4.out.cell (b := w.heap.size + 1) (cs := #[.int .i64 a', .int .i64 b', .int .i64 c', .int .i64 d']) (t := 22) (by simp)
    have xb0 := (n 0).trans rfl
    have xb1 := (n 1).trans rfl
    have xb2 := (n 2).trans rfl
    have xb3 := (n 3).trans rfl
    clear n
    go_wp2_with fail
    refine (HL'.out _).mono ?_
    rintro e w5 ⟨rfl, hb5⟩
    have hw5 := below_trans hw4 hb5
    have K5 := Lib.hid (K4.out.below hb5)
    clear xb0 xb1 xb2 xb3
    by_cases h2 : R' = 0
    · subst h2
      have xa0 := (K5.out.cell (b := w.heap.size) (cs := #[.int .i64 a, .int .i64 b, .int .i64 c, .int .i64 d]) (t := 22) (by simp) 0).trans rfl
      have xa1 := (K5.out.cell (b := w.heap.size) (cs := #[.int .i64 a, .int .i64 b, .int .i64 c, .int .i64 d]) (t := 22) (by simp) 1).trans rfl
      have xa2 := (K5.out.cell (b := w.heap.size) (cs := #[.int .i64 a, .int .i64 b, .int .i64 c, .int .i64 d]) (t := 22) (by simp) 2).trans rfl
      have xa3 := (K5.out.cell (b := w.heap.size) (cs := #[.int .i64 a, .int .i64 b, .int .i64 c, .int .i64 d]) (t := 22) (by simp) 3).trans rfl
      go_wp2_with fail
      refine (HA.out _ (HE.out.below hw5) 2 rfl (by decide)).mono ?_
      rintro e w6 ⟨rfl, hb6⟩
      have hw6 := below_trans hw5 hb6
      have K6 := Lib.hid (K5.out.below hb6)
      have K7 := Lib.hid (K6.out.alloc (.cells #[s0, s0, s0] 41))
      have hw7 := hw6.alloc hw6.size (.cells #[s0, s0, s0] 41)
      clear xa0 xa1 xa2 xa3
      have xb0 := (K7.out.cell (b := w.heap.size + 1) (cs := #[.int .i64 a', .int .i64 b', .int .i64 c', .int .i64 d']) (t := 22) (by simp) 0).trans rfl
      have xb1 := (K7.out.cell (b := w.heap.size + 1) (cs := #[.int .i64 a', .int .i64 b', .int .i64 c', .int .i64 d']) (t := 22) (by simp) 1).trans rfl
      have xb2 := (K7.out.cell (b := w.heap.size + 1) (cs := #[.int .i64 a', .int .i64 b', .int .i64 c', .int .i64 d']) (t := 22) (by simp) 2).trans rfl
      have xb3 := (K7.out.cell (b := w.heap.size + 1) (cs := #[.int .i64 a', .int .i64 b', .int .i64 c', .int .i64 d']) (t := 22) (by simp) 3).trans rfl
      go_wp2_with fail
      refine (HB'.out _ (HE.out.below hw7) 2 rfl (by decide)).mono ?_
      rintro e w8 ⟨rfl, hb8⟩
      have hw8 := below_trans hw7 hb8
      have K8 := Lib.hid (K7.out.below hb8)
      have hw9 := hw8.alloc hw8.size (.cells #[s0, s0, s0, s0, s0, s0, s0, s0, s0, s0, s0, s0] 45)
      clear xb0 xb1 xb2 xb3
      go_wp2
      go_ret
      exact ⟨rfl, hw9⟩
    · have hv : both2 0 R' = R' := rfl
      rw [hv] at HS HK
      clear hv
      have xa0 := (K5.out.cell (b := w.heap.size) (cs := #[.int .i64 a, .int .i64 b, .int .i64 c, .int .i64 d]) (t := 22) (by simp) 0).trans rfl
      have xa1 := (K5.out.cell (b := w.heap.size) (cs := #[.int .i64 a, .int .i64 b, .int .i64 c, .int .i64 d]) (t := 22) (by simp) 1).trans rfl
      have xa2 := (K5.out.cell (b := w.heap.size) (cs := #[.int .i64 a, .int .i64 b, .int .i64 c, .int .i64 d]) (t := 22) (by simp) 2).trans rfl
      have xa3 := (K5.out.cell (b := w.heap.size) (cs := #[.int .i64 a, .int .i64 b, .int .i64 c, .int .i64 d]) (t := 22) (by simp) 3).trans rfl
      have xb0 := (K5.out.cell (b := w.heap.size + 1) (cs := #[.int .i64 a', .int .i64 b', .int .i64 c', .int .i64 d']) (t := 22) (by simp) 0).trans rfl
      have xb1 := (K5.out.cell (b := w.heap.size + 1) (cs := #[.int .i64 a', .int .i64 b', .int .i64 c', .int .i64 d']) (t := 22) (by simp) 1).trans rfl
      have xb2 := (K5.out.cell (b := w.heap.size + 1) (cs := #[.int .i64 a', .int .i64 b', .int .i64 c', .int .i64 d']) (t := 22) (by simp) 2).trans rfl
      have xb3 := (K5.out.cell (b := w.heap.size + 1) (cs := #[.int .i64 a', .int .i64 b', .int .i64 c', .int .i64 d']) (t := 22) (by simp) 3).trans rfl
      go_wp2_with fail
      refine (HS.out _ h2).mono ?_
      rintro e w6 ⟨rfl, hb6⟩
      have hw6 := below_trans hw5 hb6
      have K6 := Lib.hid (K5.out.below hb6)
      clear xa0 xa1 xa2 xa3 xb0 xb1 xb2 xb3
      have xa0 := (K6.out.cell (b := w.heap.size) (cs := #[.int .i64 a, .int .i64 b, .int .i64 c, .int .i64 d]) (t := 22) (by simp) 0).trans rfl
      have xa1 := (K6.out.cell (b := w.heap.size) (cs := #[.int .i64 a, .int .i64 b, .int .i64 c, .int .i64 d]) (t := 22) (by simp) 1).trans rfl
      have xa2 := (K6.out.cell (b := w.heap.size) (cs := #[.int .i64 a, .int .i64 b, .int .i64 c, .int .i64 d]) (t := 22) (by simp) 2).trans rfl
      have xa3 := (K6.out.cell (b := w.heap.size) (cs := #[.int .i64 a, .int .i64 b, .int .i64 c, .int .i64 d]) (t := 22) (by simp) 3).trans rfl
      have xb0 := (K6.out.cell (b := w.heap.size + 1) (cs := #[.int .i64 a', .int .i64 b', .int .i64 c', .int .i64 d']) (t := 22) (by simp) 0).trans rfl
      have xb1 := (K6.out.cell (b := w.heap.size + 1) (cs := #[.int .i64 a', .int .i64 b', .int .i64 c', .int .i64 d']) (t := 22) (by simp) 1).trans rfl
      have xb2 := (K6.out.cell (b := w.heap.size + 1) (cs := #[.int .i64 a', .int .i64 b', .int .i64 c', .int .i64 d']) (t := 22) (by simp) 2).trans rfl
      have xb3 := (K6.out.cell (b := w.heap.size + 1) (cs := #[.int .i64 a', .int .i64 b', .int .i64 c', .int .i64 d']) (t := 22) (by simp) 3).trans rfl
      go_wp2_with fail
      refine (HK.out _ h2).mono ?_
      rintro e w7 ⟨rfl, hb7⟩
      have hw7 := below_trans hw6 hb7
      have K7 := Lib.hid (K6.out.below hb7)
      have K8 := Lib.hid (K7.out.alloc (.cells #[.int .i64 0, .int .i64 0, .int .i64 0, .int .i64 0] 22))
      have hw8 := hw7.alloc hw7.size (.cells #[.int .i64 0, .int .i64 0, .int .i64 0, .int .i64 0] 22)
      clear xa0 xa1 xa2 xa3 xb0 xb1 xb2 xb3
      have xy0 := (K8.out.cell (b := w7.heap.size) (cs := #[.int .i64 0, .int .i64 0, .int .i64 0, .int .i64 0]) (t := 22) (by simp) 0).trans rfl
      have xy1 := (K8.out.cell (b := w7.heap.size) (cs := #[.int .i64 0, .int .i64 0, .int .i64 0, .int .i64 0]) (t := 22) (by simp) 1).trans rfl
      have xy2 := (K8.out.cell (b := w7.heap.size) (cs := #[.int .i64 0, .int .i64 0, .int .i64 0, .int .i64 0]) (t := 22) (by simp) 2).trans rfl
      have xy3 := (K8.out.cell (b := w7.heap.size) (cs := #[.int .i64 0, .int .i64 0, .int .i64 0, .int .i64 0]) (t := 22) (by simp) 3).trans rfl
      have xz0 := (K8.out.cell (b := w3.heap.size) (cs := #[.int .i64 0, .int .i64 0, .int .i64 0, .int .i64 0]) (t := 22) (by simp) 0).trans rfl
      have xz1 := (K8.out.cell (b := w3.heap.size) (cs := #[.int .i64 0, .int .i64 0, .int .i64 0, .int .i64 0]) (t := 22) (by simp) 1).trans rfl
      have xz2 := (K8.out.cell (b := w3.heap.size) (cs := #[.int .i64 0, .int .i64 0, .int .i64 0, .int .i64 0]) (t := 22) (by simp) 2).trans rfl
      have xz3 := (K8.out.cell (b := w3.heap.size) (cs := #[.int .i64 0, .int .i64 0, .int .i64 0, .int .i64 0]) (t := 22) (by simp) 3).trans rfl
      go_wp2
      go_ret
      exact ⟨rfl, hw8⟩
  · have hv : both2 R R' = R := if_neg h1
    rw [hv] at HS HK
    clear hv
    have xa0 := (K4.out.cell (b := w.heap.size) (cs := #[.int .i64 a, .int .i64 b, .int .i64 c, .int .i64 d]) (t := 22) (by simp) 0).trans rfl
    have xa1 := (K4.out.cell (b := w.heap.size) (cs := #[.int .i64 a, .int .i64 b, .int .i64 c, .int .i64 d]) (t := 22) (by simp) 1).trans rfl
    have xa2 := (K4.out.cell (b := w.heap.size) (cs := #[.int .i64 a, .int .i64 b, .int .i64 c, .int .i64 d]) (t := 22) (by simp) 2).trans rfl
    have xa3 := (K4.out.cell (b := w.heap.size) (cs := #[.int .i64 a, .int .i64 b, .int .i64 c, .int .i64 d]) (t := 22) (by simp) 3).trans rfl
    go_wp2_with fail
    refine (HP.out _ h1).mono ?_
    rintro e w5 ⟨rfl, hb5⟩
    have hw5 := below_trans hw4 hb5
    have K5 := Lib.hid (K4.out.below hb5)
    clear xa0 xa1 xa2 xa3
    have K6 := Lib.hid (K5.out.alloc (.cells #[.int .i64 0, .int .i64 0, .int .i64 0, .int .i64 0] 22))
    have hw6 := hw5.alloc hw5.size (.cells #[.int .i64 0, .int .i64 0, .int .i64 0, .int .i64 0] 22)
    have xa0 := (K6.out.cell (b := w.heap.size) (cs := #[.int .i64 a, .int .i64 b, .int .i64 c, .int .i64 d]) (t := 22) (by simp) 0).trans rfl
    have xa1 := (K6.out.cell (b := w.heap.size) (cs := #[.int .i64 a, .int .i64 b, .int .i64 c, .int .i64 d]) (t := 22) (by simp) 1).trans rfl
    have xa2 := (K6.out.cell (b := w.heap.size) (cs := #[.int .i64 a, .int .i64 b, .int .i64 c, .int .i64 d]) (t := 22) (by simp) 2).trans rfl
    have xa3 := (K6.out.cell (b := w.heap.size) (cs := #[.int .i64 a, .int .i64 b, .int .i64 c, .int .i64 d]) (t := 22) (by simp) 3).trans rfl
    go_wp2_with fail
    refine (HI.out _ h1).mono ?_
    rintro e w7 ⟨rfl, hb7⟩
    have hw7 := below_trans hw6 hb7
    have K7 := Lib.hid (K6.out.below hb7)
    clear xa0 xa1 xa2 xa3
    have K8 := Lib.hid (K7.out.alloc (.cells #[.int .i64 0, .int .i64 0, .int .i64 0, .int .i64 0] 22))
    have hw8 := hw7.alloc hw7.size (.cells #[.int .i64 0, .int .i64 0, .int .i64 0, .int .i64 0] 22)
    have xa0 := (K8.out.cell (b := w.heap.size) (cs := #[.int .i64 a, .int .i64 b, .int .i64 c, .int .i64 d]) (t := 22) (by simp) 0).trans rfl
    have xa1 := (K8.out.cell (b := w.heap.size) (cs := #[.int .i64 a, .int .i64 b, .int .i64 c, .int .i64 d]) (t := 22) (by simp) 1).trans rfl
    have xa2 := (K8.out.cell (b := w.heap.size) (cs := #[.int .i64 a, .int .i64 b, .int .i64 c, .int .i64 d]) (t := 22) (by simp) 2).trans rfl
    have xa3 := (K8.out.cell (b := w.heap.size) (cs := #[.int .i64 a, .int .i64 b, .int .i64 c, .int .i64 d]) (t := 22) (by simp) 3).trans rfl
    go_wp2_with fail
    refine (HO.out _ h1).mono ?_
    rintro e w9 ⟨rfl, hb9⟩
    have hw9 := below_trans hw8 hb9
    have K9 := Lib.hid (K8.out.below hb9)
    clear xa0 xa1 xa2 xa3
    have xa0 := (K9.out.cell (b := w.heap.size) (cs := #[.int .i64 a, .int .i64 b, .int .i64 c, .int .i64 d]) (t := 22) (by simp) 0).trans rfl
    have xa1 := (K9.out.cell (b := w.heap.size) (cs := #[.int .i64 a, .int .i64 b, .int .i64 c, .int .i64 d]) (t := 22) (by simp) 1).trans rfl
    have xa2 := (K9.out.cell (b := w.heap.size) (cs := #[.int .i64 a, .int .i64 b, .int .i64 c, .int .i64 d]) (t := 22) (by simp) 2).trans rfl
    have xa3 := (K9.out.cell (b := w.heap.size) (cs := #[.int .i64 a, .int .i64 b, .int .i64 c, .int .i64 d]) (t := 22) (by simp) 3).trans rfl
    go_wp2_with fail
    refine (HM.out _ h1).mono ?_
    rintro e w10 ⟨rfl, hb10⟩
    have hw10 := below_trans hw9 hb10
    have K10 := Lib.hid (K9.out.below hb10)
    clear xa0 xa1 xa2 xa3
    have K11 := Lib.hid (K10.out.alloc (.cells #[s0, s0, s0, s0, s0, s0, s0, s0, s0] 43))
    have hw11 := hw10.alloc hw10.size (.cells #[s0, s0, s0, s0, s0, s0, s0, s0, s0] 43)
    have xa0 := (K11.out.cell (b := w.heap.size) (cs := #[.int .i64 a, .int .i64 b, .int .i64 c, .int .i64 d]) (t := 22) (by simp) 0).trans rfl
    have xa1 := (K11.out.cell (b := w.heap.size) (cs := #[.int .i64 a, .int .i64 b, .int .i64 c, .int .i64 d]) (t := 22) (by simp) 1).trans rfl
    have xa2 := (K11.out.cell (b := w.heap.size) (cs := #[.int .i64 a, .int .i64 b, .int .i64 c, .int .i64 d]) (t := 22) (by simp) 2).trans rfl
    have xa3 := (K11.out.cell (b := w.heap.size) (cs := #[.int .i64 a, .int .i64 b, .int .i64 c, .int .i64 d]) (t := 22) (by simp) 3).trans rfl
    go_wp2_with fail
    refine (HA.out _ (HE.out.below hw11) R (if_neg h1).symm h1).mono ?_
    rintro e w12 ⟨rfl, hb12⟩
    have hw12 := below_trans hw11 hb12
    have K12 := Lib.hid (K11.out.below hb12)
    clear xa0 xa1 xa2 xa3
    have K13 := Lib.hid (K12.out.alloc (.cells #[s0, s0, s0] 41))
    have hw13 := hw12.alloc hw12.size (.cells #[s0, s0, s0] 41)
    have xa0 := (K13.out.cell (b := w.heap.size) (cs := #[.int .i64 a, .int .i64 b, .int .i64 c, .int .i64 d]) (t := 22) (by simp) 0).trans rfl
    have xa1 := (K13.out.cell (b := w.heap.size) (cs := #[.int .i64 a, .int .i64 b, .int .i64 c, .int .i64 d]) (t := 22) (by simp) 1).trans rfl
    have xa2 := (K13.out.cell (b := w.heap.size) (cs := #[.int .i64 a, .int .i64 b, .int .i64 c, .int .i64 d]) (t := 22) (by simp) 2).trans rfl
    have xa3 := (K13.out.cell (b := w.heap.size) (cs := #[.int .i64 a, .int .i64 b, .int .i64 c, .int .i64 d]) (t := 22) (by simp) 3).trans rfl
    go_wp2_with fail
    refine (HB.out _ (HE.out.below hw13) R (if_neg h1).symm h1).mono ?_
    rintro e w14 ⟨rfl, hb14⟩
    have hw14 := below_trans hw13 hb14
    have K14 := Lib.hid (K13.out.below hb14)
    clear xa0 xa1 xa2 xa3
    have K15 := Lib.hid (K14.out.alloc (.cells #[s0, s0, s0, s0, s0, s0, s0, s0, s0, s0, s0, s0] 45))
    have hw15 := hw14.alloc hw14.size (.cells #[s0, s0, s0, s0, s0, s0, s0, s0, s0, s0, s0, s0] 45)
    have xa0 := (K15.out.cell (b := w.heap.size) (cs := #[.int .i64 a, .int .i64 b, .int .i64 c, .int .i64 d]) (t := 22) (by simp) 0).trans rfl
    have xa1 := (K15.out.cell (b := w.heap.size) (cs := #[.int .i64 a, .int .i64 b, .int .i64 c, .int .i64 d]) (t := 22) (by simp) 1).trans rfl
    have xa2 := (K15.out.cell (b := w.heap.size) (cs := #[.int .i64 a, .int .i64 b, .int .i64 c, .int .i64 d]) (t := 22) (by simp) 2).trans rfl
    have xa3 := (K15.out.cell (b := w.heap.size) (cs := #[.int .i64 a, .int .i64 b, .int .i64 c, .int .i64 d]) (t := 22) (by simp) 3).trans rfl
    go_wp2_with fail
    refine (HX.out _ h1).mono ?_
    rintro e w16 ⟨rfl, hb16⟩
    have hw16 := below_trans hw15 hb16
    have K16 := Lib.hid (K15.out.below hb16)
    clear xa0 xa1 xa2 xa3
    have K17 := Lib.hid (K16.out.alloc (.cells #[s0, s0, s0] 41))
    have hw17 := hw16.alloc hw16.size (.cells #[s0, s0, s0] 41)
    have xa0 := (K17.out.cell (b := w.heap.size) (cs := #[.int .i64 a, .int .i64 b, .int .i64 c, .int .i64 d]) (t := 22) (by simp) 0).trans rfl
    have xa1 := (K17.out.cell (b := w.heap.size) (cs := #[.int .i64 a, .int .i64 b, .int .i64 c, .int .i64 d]) (t := 22) (by simp) 1).trans rfl
    have xa2 := (K17.out.cell (b := w.heap.size) (cs := #[.int .i64 a, .int .i64 b, .int .i64 c, .int .i64 d]) (t := 22) (by simp) 2).trans rfl
    have xa3 := (K17.out.cell (b := w.heap.size) (cs := #[.int .i64 a, .int .i64 b, .int .i64 c, .int .i64 d]) (t := 22) (by simp) 3).trans rfl
    go_wp2_with fail
    refine (HC.out _ (HE.out.below hw17) h1).mono ?_
    rintro e w18 ⟨rfl, hb18⟩
    have hw18 := below_trans hw17 hb18
    have K18 := Lib.hid (K17.out.below hb18)
    clear xa0 xa1 xa2 xa3
    have xp0 := (K18.out.cell (b := w5.heap.size) (cs := #[.int .i64 0, .int .i64 0, .int .i64 0, .int .i64 0]) (t := 22) (by simp) 0).trans rfl
    have xp1 := (K18.out.cell (b := w5.heap.size) (cs := #[.int .i64 0, .int .i64 0, .int .i64 0, .int .i64 0]) (t := 22) (by simp) 1).trans rfl
    have xp2 := (K18.out.cell (b := w5.heap.size) (cs := #[.int .i64 0, .int .i64 0, .int .i64 0, .int .i64 0]) (t := 22) (by simp) 2).trans rfl
    have xp3 := (K18.out.cell (b := w5.heap.size) (cs := #[.int .i64 0, .int .i64 0, .int .i64 0, .int .i64 0]) (t := 22) (by simp) 3).trans rfl
    have xi0 := (K18.out.cell (b := w7.heap.size) (cs := #[.int .i64 0, .int .i64 0, .int .i64 0, .int .i64 0]) (t := 22) (by simp) 0).trans rfl
    have xi1 := (K18.out.cell (b := w7.heap.size) (cs := #[.int .i64 0, .int .i64 0, .int .i64 0, .int .i64 0]) (t := 22) (by simp) 1).trans rfl
    have xi2 := (K18.out.cell (b := w7.heap.size) (cs := #[.int .i64 0, .int .i64 0, .int .i64 0, .int .i64 0]) (t := 22) (by simp) 2).trans rfl
    have xi3 := (K18.out.cell (b := w7.heap.size) (cs := #[.int .i64 0, .int .i64 0, .int .i64 0, .int .i64 0]) (t := 22) (by simp) 3).trans rfl
    have xm0 := (K18.out.cell (b := w10.heap.size) (cs := #[s0, s0, s0, s0, s0, s0, s0, s0, s0]) (t := 43) (by simp) 0).trans rfl
    have xm1 := (K18.out.cell (b := w10.heap.size) (cs := #[s0, s0, s0, s0, s0, s0, s0, s0, s0]) (t := 43) (by simp) 1).trans rfl
    have xm2 := (K18.out.cell (b := w10.heap.size) (cs := #[s0, s0, s0, s0, s0, s0, s0, s0, s0]) (t := 43) (by simp) 2).trans rfl
    have xm3 := (K18.out.cell (b := w10.heap.size) (cs := #[s0, s0, s0, s0, s0, s0, s0, s0, s0]) (t := 43) (by simp) 3).trans rfl
    have xm4 := (K18.out.cell (b := w10.heap.size) (cs := #[s0, s0, s0, s0, s0, s0, s0, s0, s0]) (t := 43) (by simp) 4).trans rfl
    have xm5 := (K18.out.cell (b := w10.heap.size) (cs := #[s0, s0, s0, s0, s0, s0, s0, s0, s0]) (t := 43) (by simp) 5).trans rfl
    have xm6 := (K18.out.cell (b := w10.heap.size) (cs := #[s0, s0, s0, s0, s0, s0, s0, s0, s0]) (t := 43) (by simp) 6).trans rfl
    have xm7 := (K18.out.cell (b := w10.heap.size) (cs := #[s0, s0, s0, s0, s0, s0, s0, s0, s0]) (t := 43) (by simp) 7).trans rfl
    have xm8 := (K18.out.cell (b := w10.heap.size) (cs := #[s0, s0, s0, s0, s0, s0, s0, s0, s0]) (t := 43) (by simp) 8).trans rfl
    have xv0 := (K18.out.cell (b := w12.heap.size) (cs := #[s0, s0, s0]) (t := 41) (by simp) 0).trans rfl
    have xv1 := (K18.out.cell (b := w12.heap.size) (cs := #[s0, s0, s0]) (t := 41) (by simp) 1).trans rfl
    have xv2 := (K18.out.cell (b := w12.heap.size) (cs := #[s0, s0, s0]) (t := 41) (by simp) 2).trans rfl
    have xf0 := (K18.out.cell (b := w14.heap.size) (cs := #[s0, s0, s0, s0, s0, s0, s0, s0, s0, s0, s0, s0]) (t := 45) (by simp) 0).trans rfl
    have xf1 := (K18.out.cell (b := w14.heap.size) (cs := #[s0, s0, s0, s0, s0, s0, s0, s0, s0, s0, s0, s0]) (t := 45) (by simp) 1).trans rfl
    have xf2 := (K18.out.cell (b := w14.heap.size) (cs := #[s0, s0, s0, s0, s0, s0, s0, s0, s0, s0, s0, s0]) (t := 45) (by simp) 2).trans rfl
    have xf3 := (K18.out.cell (b := w14.heap.size) (cs := #[s0, s0, s0, s0, s0, s0, s0, s0, s0, s0, s0, s0]) (t := 45) (by simp) 3).trans rfl
    have xf4 := (K18.out.cell (b := w14.heap.size) (cs := #[s0, s0, s0, s0, s0, s0, s0, s0, s0, s0, s0, s0]) (t := 45) (by simp) 4).trans rfl
    have xf5 := (K18.out.cell (b := w14.heap.size) (cs := #[s0, s0, s0, s0, s0, s0, s0, s0, s0, s0, s0, s0]) (t := 45) (by simp) 5).trans rfl
    have xf6 := (K18.out.cell (b := w14.heap.size) (cs := #[s0, s0, s0, s0, s0, s0, s0, s0, s0, s0, s0, s0]) (t := 45) (by simp) 6).trans rfl
    have xf7 := (K18.out.cell (b := w14.heap.size) (cs := #[s0, s0, s0, s0, s0, s0, s0, s0, s0, s0, s0, s0]) (t := 45) (by simp) 7).trans rfl
    have xf8 := (K18.out.cell (b := w14.heap.size) (cs := #[s0, s0, s0, s0, s0, s0, s0, s0, s0, s0, s0, s0]) (t := 45) (by simp) 8).trans rfl
    have xf9 := (K18.out.cell (b := w14.heap.size) (cs := #[s0, s0, s0, s0, s0, s0, s0, s0, s0, s0, s0, s0]) (t := 45) (by simp) 9).trans rfl
    have xf10 := (K18.out.cell (b := w14.heap.size) (cs := #[s0, s0, s0, s0, s0, s0, s0, s0, s0, s0, s0, s0]) (t := 45) (by simp) 10).trans rfl
    have xf11 := (K18.out.cell (b := w14.heap.size) (cs := #[s0, s0, s0, s0, s0, s0, s0, s0, s0, s0, s0, s0]) (t := 45) (by simp) 11).trans rfl
    have xu0 := (K18.out.cell (b := w16.heap.size) (cs := #[s0, s0, s0]) (t := 41) (by simp) 0).trans rfl
    have xu1 := (K18.out.cell (b := w16.heap.size) (cs := #[s0, s0, s0]) (t := 41) (by simp) 1).trans rfl
    have xu2 := (K18.out.cell (b := w16.heap.size) (cs := #[s0, s0, s0]) (t := 41) (by simp) 2).trans rfl
    have xz0 := (K18.out.cell (b := w3.heap.size) (cs := #[.int .i64 0, .int .i64 0, .int .i64 0, .int .i64 0]) (t := 22) (by simp) 0).trans rfl
    have xz1 := (K18.out.cell (b := w3.heap.size) (cs := #[.int .i64 0, .int .i64 0, .int .i64 0, .int .i64 0]) (t := 22) (by simp) 1).trans rfl
    have xz2 := (K18.out.cell (b := w3.heap.size) (cs := #[.int .i64 0, .int .i64 0, .int .i64 0, .int .i64 0]) (t := 22) (by simp) 2).trans rfl
    have xz3 := (K18.out.cell (b := w3.heap.size) (cs := #[.int .i64 0, .int .i64 0, .int .i64 0, .int .i64 0]) (t := 22) (by simp) 3).trans rfl
    have xa0 := (K18.out.cell (b := w.heap.size) (cs := #[.int .i64 a, .int .i64 b, .int .i64 c, .int .i64 d]) (t := 22) (by simp) 0).trans rfl
    have xa1 := (K18.out.cell (b := w.heap.size) (cs := #[.int .i64 a, .int .i64 b, .int .i64 c, .int .i64 d]) (t := 22) (by simp) 1).trans rfl
    have xa2 := (K18.out.cell (b := w.heap.size) (cs := #[.int .i64 a, .int .i64 b, .int .i64 c, .int .i64 d]) (t := 22) (by simp) 2).trans rfl
    have xa3 := (K18.out.cell (b := w.heap.size) (cs := #[.int .i64 a, .int .i64 b, .int .i64 c, .int .i64 d]) (t := 22) (by simp) 3).trans rfl
    have xb0 := (K18.out.cell (b := w.heap.size + 1) (cs := #[.int .i64 a', .int .i64 b', .int .i64 c', .int .i64 d']) (t := 22) (by simp) 0).trans rfl
    have xb1 := (K18.out.cell (b := w.heap.size + 1) (cs := #[.int .i64 a', .int .i64 b', .int .i64 c', .int .i64 d']) (t := 22) (by simp) 1).trans rfl
    have xb2 := (K18.out.cell (b := w.heap.size + 1) (cs := #[.int .i64 a', .int .i64 b', .int .i64 c', .int .i64 d']) (t := 22) (by simp) 2).trans rfl
    have xb3 := (K18.out.cell (b := w.heap.size + 1) (cs := #[.int .i64 a', .int .i64 b', .int .i64 c', .int .i64 d']) (t := 22) (by simp) 3).trans rfl
    go_wp2_with fail
    refine (HS.out _ h1).mono ?_
    rintro e w19 ⟨rfl, hb19⟩
    have hw19 := below_trans hw18 hb19
    have K19 := Lib.hid (K18.out.below hb19)
    clear xp0 xp1 xp2 xp3 xi0 xi1 xi2 xi3 xm0 xm1 xm2 xm3 xm4 xm5 xm6 xm7 xm8 xv0 xv1 xv2 xf0 xf1 xf2 xf3 xf4 xf5 xf6 xf7 xf8 xf9 xf10 xf11 xu0 xu1 xu2 xz0 xz1 xz2 xz3 xa0 xa1 xa2 xa3 xb0 xb1 xb2 xb3
    have xa0 := (K19.out.cell (b := w.heap.size) (cs := #[.int .i64 a, .int .i64 b, .int .i64 c, .int .i64 d]) (t := 22) (by simp) 0).trans rfl
    have xa1 := (K19.out.cell (b := w.heap.size) (cs := #[.int .i64 a, .int .i64 b, .int .i64 c, .int .i64 d]) (t := 22) (by simp) 1).trans rfl
    have xa2 := (K19.out.cell (b := w.heap.size) (cs := #[.int .i64 a, .int .i64 b, .int .i64 c, .int .i64 d]) (t := 22) (by simp) 2).trans rfl
    have xa3 := (K19.out.cell (b := w.heap.size) (cs := #[.int .i64 a, .int .i64 b, .int .i64 c, .int .i64 d]) (t := 22) (by simp) 3).trans rfl
    have xb0 := (K19.out.cell (b := w.heap.size + 1) (cs := #[.int .i64 a', .int .i64 b', .int .i64 c', .int .i64 d']) (t := 22) (by simp) 0).trans rfl
    have xb1 := (K19.out.cell (b := w.heap.size + 1) (cs := #[.int .i64 a', .int .i64 b', .int .i64 c', .int .i64 d']) (t := 22) (by simp) 1).trans rfl
    have xb2 := (K19.out.cell (b := w.heap.size + 1) (cs := #[.int .i64 a', .int .i64 b', .int .i64 c', .int .i64 d']) (t := 22) (by simp) 2).trans rfl
    have xb3 := (K19.out.cell (b := w.heap.size + 1) (cs := #[.int .i64 a', .int .i64 b', .int .i64 c', .int .i64 d']) (t := 22) (by simp) 3).trans rfl
    go_wp2_with fail
    refine (HK.out _ h1).mono ?_
    rintro e w20 ⟨rfl, hb20⟩
    have hw20 := below_trans hw19 hb20
    have K20 := Lib.hid (K19.out.below hb20)
    have K21 := Lib.hid (K20.out.alloc (.cells #[.int .i64 0, .int .i64 0, .int .i64 0, .int .i64 0] 22))
    have hw21 := hw20.alloc hw20.size (.cells #[.int .i64 0, .int .i64 0, .int .i64 0, .int .i64 0] 22)
    clear xa0 xa1 xa2 xa3 xb0 xb1 xb2 xb3
    have xy0 := (K21.out.cell (b := w20.heap.size) (cs := #[.int .i64 0, .int .i64 0, .int .i64 0, .int .i64 0]) (t := 22) (by simp) 0).trans rfl
    have xy1 := (K21.out.cell (b := w20.heap.size) (cs := #[.int .i64 0, .int .i64 0, .int .i64 0, .int .i64 0]) (t := 22) (by simp) 1).trans rfl
    have xy2 := (K21.out.cell (b := w20.heap.size) (cs := #[.int .i64 0, .int .i64 0, .int .i64 0, .int .i64 0]) (t := 22) (by simp) 2).trans rfl
    have xy3 := (K21.out.cell (b := w20.heap.size) (cs := #[.int .i64 0, .int .i64 0, .int .i64 0, .int .i64 0]) (t := 22) (by simp) 3).trans rfl
    have xz0 := (K21.out.cell (b := w3.heap.size) (cs := #[.int .i64 0, .int .i64 0, .int .i64 0, .int .i64 0]) (t := 22) (by simp) 0).trans rfl
    have xz1 := (K21.out.cell (b := w3.heap.size) (cs := #[.int .i64 0, .int .i64 0, .int .i64 0, .int .i64 0]) (t := 22) (by simp) 1).trans rfl
    have xz2 := (K21.out.cell (b := w3.heap.size) (cs := #[.int .i64 0, .int .i64 0, .int .i64 0, .int .i64 0]) (t := 22) (by simp) 2).trans rfl
    have xz3 := (K21.out.cell (b := w3.heap.size) (cs := #[.int .i64 0, .int .i64 0, .int .i64 0, .int .i64 0]) (t := 22) (by simp) 3).trans rfl
    go_wp2
    go_ret
    exact ⟨rfl, hw21⟩
end Go.Proofs.Kl
/- Opening the arguments of the statements about rotations; a world that meets the condition. -/
namespace Go.Proofs.YtelglpocokhhoaaGreatDoor
open Go.ChangeShapes Go.WideShapes Go.ChangeAt Go.RowKit Go.Proofs.Kl
set_option maxRecDepth 100000 in
theorem cell_int {W : World} {r : Reach} {base : Nat} {u : TypeId} {k : IntKind} {v : Value} (hu : Tryz.prog.underlying u = some (.int k)) (h : Cell.okWide Tryz.prog W r base u v) : ∃ n, v = .int k n := by
  simp only [Cell.okWide, hu] at h
  cases v <;> simp_all [Cell.ok]
set_option maxRecDepth 100000 in
theorem arr4 {cs : Array Value} (h : cs.size = 4) : ∃ a b c d, cs = #[a, b, c, d] := by
  obtain ⟨l⟩ := cs
  match l, h with
  | [a, b, c, d], _ => exact ⟨a, b, c, d, rfl⟩
set_option maxRecDepth 100000 in
theorem open_q4 {W : World} {r : Reach} {base : Nat} {v : Value} (h : Value.okWide Tryz.prog W r base 22 v) : ∃ a b c d : Int, v = qv a b c d := by
  have hu : ∃ e, Tryz.prog.underlying 22 = some (.array 4 e) := ⟨_, Tryz.underlying22⟩
  obtain ⟨e, hu⟩ := hu
  simp only [Value.okWide, hu] at h
  obtain ⟨cs, rfl, hsz, ts, hts, _, hall⟩ := h
  have hts' : Tryz.prog.cellTypes Tryz.prog.depth 22 = some [3, 3, 3, 3] := by kernel_rfl
  obtain rfl := Option.some.inj (hts'.symm.trans hts)
  have hc : Tryz.prog.cellsOf 22 = 4 := by kernel_rfl
  obtain ⟨a, b, c, d, rfl⟩ := arr4 (hsz.trans hc)
  have key : ∀ i v, #[a, b, c, d][i]? = some v → i < 4 → ∃ n, v = .int .i64 n := by
    intro i v hv hi
    obtain ⟨u, hu1, hu2⟩ := hall i v hv
    have : u = 3 := by
      match i, hi with
      | 0, _ => simpa using hu1.symm
      | 1, _ => simpa using hu1.symm
      | 2, _ => simpa using hu1.symm
      | 3, _ => simpa using hu1.symm
    subst this
    exact cell_int Tryz.underlying3 hu2
  obtain ⟨a', rfl⟩ := key 0 a rfl (by decide)
  obtain ⟨b', rfl⟩ := key 1 b rfl (by decide)
  obtain ⟨c', rfl⟩ := key 2 c rfl (by decide)
  obtain ⟨d', rfl⟩ := key 3 d rfl (by decide)
  exact ⟨a', b', c', d', rfl⟩
theorem args_one {args : Array Value} (h : args.size = 1) : ∃ v, args = #[v] := by
  obtain ⟨l⟩ := args
  match l, h with
  | [v], _ => exact ⟨v, rfl⟩
theorem door_met (os : Os) (args : Array Value) : laidMetH Tryz.prog LL ((World.doorLaid Tryz.prog 62 os).forCall (fun _ _ => 0) ⟨#[], args, []⟩).memory :=
  laidMetH_of_parts3 (fuel := 8) (laidMet_of_run' 8 (by kernel_rfl) (by kernel_rfl)) (by kernel_rfl) (by kernel_rfl)
theorem args_two {args : Array Value} (h : args.size = 2) : ∃ u v, args = #[u, v] := by
  obtain ⟨l⟩ := args
  match l, h with
  | [u, v], _ => exact ⟨u, v, rfl⟩
end Go.Proofs.YtelglpocokhhoaaGreatDoor
