/- Part 6 of the proof: the contracts that the statement's proof uses. -/
import Derived.Test.YtelglpocokhhoaaGreatDoorK4
import Derived.Test.YtelglpocokhhoaaGreatDoorK5
/- rotation: primitive. -/
namespace Go.Proofs.Kl
open Go.RowKit Go.Shelf
/-- the divisor with the sign of the first part that is not 0. -/
def sG (zs : List Int) : Int := if sl zs < 0 then -((gl zs : Nat) : Int) else ((gl zs : Nat) : Int)
theorem sgn_lt {n : Int} : sgn n < 0 ↔ n < 0 := by unfold sgn; split <;> (try split) <;> omega
theorem first4 (a b c d : Int) (h : ¬ (a = 0 ∧ b = 0 ∧ c = 0 ∧ d = 0)) : ∃ k : Nat, k < 4 ∧ firstAt (fun n => decide (n ≠ 0)) [a, b, c, d] = (k : Int) ∧ sl [a, b, c, d] = sgn ([a, b, c, d].getD k 0) := by
  by_cases h0 : a = 0
  · by_cases h1 : b = 0
    · by_cases h2 : c = 0
      · have h3 : d ≠ 0 := fun h3 => h ⟨h0, h1, h2, h3⟩
        exact ⟨3, by decide, by simp [firstAt, List.findIdx?_cons, h0, h1, h2, h3], by simp [sl, sgn_nul, h0, h1, h2]⟩
      · have := sgn_ne h2
        exact ⟨2, by decide, by simp [firstAt, List.findIdx?_cons, h0, h1, h2], by simp [sl, sgn_nul, h0, h1, this]⟩
    · have := sgn_ne h1
      exact ⟨1, by decide, by simp [firstAt, List.findIdx?_cons, h0, h1], by simp [sl, sgn_nul, h0, this]⟩
  · have := sgn_ne h0
    exact ⟨0, by decide, by simp [firstAt, List.findIdx?_cons, h0], by simp [sl, this]⟩
theorem gl_pos {a b c d : Int} (h : ¬ (a = 0 ∧ b = 0 ∧ c = 0 ∧ d = 0)) : 0 < gl [a, b, c, d] := by
  simp only [gl, List.foldl, Nat.gcd_zero_left]
  rcases Nat.eq_zero_or_pos (Nat.gcd (Nat.gcd (Nat.gcd a.natAbs b.natAbs) c.natAbs) d.natAbs) with e | e
  · rw [Nat.gcd_eq_zero_iff, Nat.gcd_eq_zero_iff, Nat.gcd_eq_zero_iff] at e
    exact absurd ⟨by omega, by omega, by omega, by omega⟩ h
  · exact e
theorem sG_ne {a b c d : Int} (h : ¬ (a = 0 ∧ b = 0 ∧ c = 0 ∧ d = 0)) : sG [a, b, c, d] ≠ 0 := by
  have := gl_pos h
  unfold sG; split <;> omega
theorem tdiv_bd {x g : Int} {n : Nat} (h : x.natAbs ≤ n) : (x.tdiv g).natAbs ≤ n := by
  rw [Int.natAbs_tdiv]; exact Nat.le_trans (Nat.div_le_self _ _) h
theorem gcd_bd {u v n : Nat} (hu : u ≤ n) (hv : v ≤ n) : Nat.gcd u v ≤ n := by
  rcases Nat.eq_zero_or_pos u with h | h
  · subst h; simpa using hv
  · exact Nat.le_trans (Nat.gcd_le_left v h) hu
set_option maxRecDepth 100000 in
theorem closurePrim (n : Int) (w : World) : Calls Tryz.prog 104 #[.int .i64 n] w fun e w' => e = .returned (.bool (decide (n ≠ 0))) ∧ w' = w := by
  by_cases h : n = 0
  · go_enter Tryz.func104, Tryz.ntmps104
    go_wp2
    go_ret
    exact ⟨by simp [h], rfl⟩
  · go_enter Tryz.func104, Tryz.ntmps104
    go_wp2
    go_ret
    exact ⟨by simp [h], rfl⟩
attribute [local go_sem] Instr.index part asIntOf
set_option maxHeartbeats 4000000 in
set_option maxRecDepth 100000 in
theorem Prim_any (a b c d : Int) (w : World) (h0 : ¬ (a = 0 ∧ b = 0 ∧ c = 0 ∧ d = 0)) (ha : a.natAbs ≤ 9000000000000000000) (hb : b.natAbs ≤ 9000000000000000000) (hc : c.natAbs ≤ 9000000000000000000) (hd : d.natAbs ≤ 9000000000000000000) :
    Calls Tryz.prog 55 #[qv a b c d] w (Ret (qv (a.tdiv (sG [a, b, c, d])) (b.tdiv (sG [a, b, c, d])) (c.tdiv (sG [a, b, c, d])) (d.tdiv (sG [a, b, c, d]))) w) := by
  obtain ⟨kf, hkf, hfi, hsl⟩ := first4 a b c d h0
  have HIX := Lib.hid (fun (w' : World) (hcl : ∀ j, j < [a, b, c, d].length → w'.cell? ⟨w.heap.size, j, none⟩ = some (.int .i64 ([a, b, c, d].getD j 0))) => IndexFunc_any 104 _ closurePrim (enters_of Tryz.func104 (by kernel_rfl) rfl) w.heap.size 4 [a, b, c, d] w' (by simp) hcl)
  rw [hfi] at HIX
  have HGP := Lib.hid (gl_pos h0)
  obtain ⟨G, hG⟩ : ∃ G, G = sG [a, b, c, d] := ⟨_, rfl⟩
  have hGn : ¬ G = 0 := by rw [hG]; exact sG_ne h0
  rw [← hG]
  obtain ⟨p0, hp0⟩ : ∃ p, a.tdiv G = p := ⟨_, rfl⟩
  obtain ⟨p1, hp1⟩ : ∃ p, b.tdiv G = p := ⟨_, rfl⟩
  obtain ⟨p2, hp2⟩ : ∃ p, c.tdiv G = p := ⟨_, rfl⟩
  obtain ⟨p3, hp3⟩ : ∃ p, d.tdiv G = p := ⟨_, rfl⟩
  have q0 : p0.natAbs ≤ 9000000000000000000 := by rw [← hp0]; exact tdiv_bd ha
  have q1 : p1.natAbs ≤ 9000000000000000000 := by rw [← hp1]; exact tdiv_bd hb
  have q2 : p2.natAbs ≤ 9000000000000000000 := by rw [← hp2]; exact tdiv_bd hc
  have q3 : p3.natAbs ≤ 9000000000000000000 := by rw [← hp3]; exact tdiv_bd hd
  rw [hp0, hp1, hp2, hp3]
  obtain ⟨zs, hzs⟩ : ∃ zs, zs = [a, b, c, d] := ⟨_, rfl⟩
  rw [← hzs] at hsl hG HGP
  have HZS := Lib.hid hzs
  have HSL := Lib.hid hsl
  have HG := Lib.hid hG
  have HQ := Lib.hid (And.intro (And.intro q0 q1) (And.intro q2 q3))
  have HP := Lib.hid (And.intro (And.intro hp0 hp1) (And.intro hp2 hp3))
  have HB := Lib.hid (And.intro (And.intro ha hb) (And.intro hc hd))
  have HKF := Lib.hid hkf
  have HGN := Lib.hid hGn
  clear hfi hsl hG hzs hp0 hp1 hp2 hp3 q0 q1 q2 q3 ha hb hc hd h0 hkf hGn
  go_enter Tryz.func55, Tryz.ntmps55
  go_wp2_with fail
  go_loopw [3, 10] (fun s3 i wr => ∃ (wq : World) (k g : Nat), wq = wr ∧ k ≤ 4 ∧ i = .int .i64 (k : Int) ∧ s3 = .int .i64 (g : Int) ∧ (g = gl (zs.take k) ∧ g ≤ 9000000000000000000) ∧ Below w.heap.size w wq
      ∧ wq.heap[w.heap.size]? = some (.cells #[.int .i64 a, .int .i64 b, .int .i64 c, .int .i64 d] 22 (0, 0)) ∧ wq.heap[w.heap.size + 1]? = some (.cells #[.int .i64 0, .int .i64 0, .int .i64 0, .int .i64 0] 22 (0, 0))) (fun _ i _ => (5 - intOf i).toNat)
  case atStart =>
    refine ⟨_, 0, 0, rfl, by omega, rfl, rfl, ⟨rfl, by omega⟩, ?_, ?_, ?_⟩
    · exact ((Below.refl w.heap.size w).alloc (Nat.le_refl _) _).alloc (by simp) _
    · exact heap_alloc_old _ (World.alloc_heap_new w _)
    · have := World.alloc_heap_new (w.alloc (.cells #[.int .i64 a, .int .i64 b, .int .i64 c, .int .i64 d] 22)) (.cells #[.int .i64 0, .int .i64 0, .int .i64 0, .int .i64 0] 22)
      simpa using this
  case round =>
    obtain ⟨wr, k, g, rfl, hk, rfl, rfl, hg, hbr, hh0, hh1⟩ := hrel
    have HH0 := Lib.hid hh0
    have HH1 := Lib.hid hh1
    have HGG := Lib.hid hg
    clear hh0 hh1 hg
    by_cases hlt : k < 4
    · rcases (show k = 0 ∨ k = 1 ∨ k = 2 ∨ k = 3 by omega) with rfl | rfl | rfl | rfl
      · have HS := Lib.hid ((gl_step (ts := zs) (k := 0) (n := a) (by rw [HZS.out]; rfl)).1)
        have HX := Lib.hid HB.out.1.1
        have hmax : max a (-a) = ((a.natAbs : Nat) : Int) := by omega
        have hm1 : -9000000000000000000 ≤ a ∧ a ≤ 9000000000000000000 := by have := HX.out; omega
        clear hk hlt
        go_wp2_with fail
        clear hmax hm1
        go_loopw [3, 6] (fun s3 s6 wi => ∃ (wq : World) (u v : Nat), wq = wi ∧ s3 = .int .i64 (u : Int) ∧ s6 = .int .i64 (v : Int) ∧ (u ≤ 9000000000000000000 ∧ v ≤ 9000000000000000000 ∧ Nat.gcd u v = Nat.gcd g a.natAbs) ∧ Below wr.heap.size wr wq) (fun _ y _ => (intOf y).natAbs)
        case atStart => exact ⟨_, g, a.natAbs, rfl, rfl, rfl, ⟨HGG.out.2, HX.out, rfl⟩, Below.refl _ _⟩
        case round =>
          obtain ⟨wi, u, v, rfl, rfl, rfl, huv, hbi⟩ := hrel
          have HUV := Lib.hid huv
          by_cases hv0 : v = 0
          · subst hv0
            clear huv
            have hu : u = Nat.gcd g a.natAbs := by have := HUV.out.2.2; rwa [Nat.gcd_zero_right] at this
            have HU := Lib.hid hu
            have HUB := Lib.hid HUV.out.1
            have g0 := (hbi.block _ (heap_lt HH0.out)).trans HH0.out
            have g1 := (hbi.block _ (heap_lt HH1.out)).trans HH1.out
            have HF0 := Lib.hid g0
            have HF1 := Lib.hid g1
            have hbf := below_trans hbr hbi
            clear hu g0 g1
            go_wp2_with fail
            have HFIN := Lib.hid (show u = gl (zs.take 1) by rw [HU.out, HGG.out.1]; exact HS.out.symm)
            first
              | exact ⟨⟨_, 1, u, rfl, by decide, rfl, rfl, ⟨HFIN.out, HUB.out⟩, hbf, HF0.out, HF1.out⟩, (by decide : (5 - (1 : Int)).toNat < (5 - (0 : Int)).toNat)⟩
              | (refine ⟨?_, ?_⟩
                 · (repeat apply Exists.intro)
                   refine ⟨?_, rfl⟩
                   exact ⟨_, 1, u, rfl, by decide, rfl, rfl, ⟨HFIN.out, HUB.out⟩, hbf, HF0.out, HF1.out⟩
                 · exact (by decide : (5 - (1 : Int)).toNat < (5 - (0 : Int)).toNat))
          · have hrem : (u : Int).tmod (v : Int) = ((u % v : Nat) : Int) := (Int.ofNat_tmod u v).symm
            have hlt2 := Nat.mod_lt u (show 0 < v by omega)
            have HLT2 := Lib.hid hlt2
            have hu9 : (u : Int) ≤ 9000000000000000000 := by have := HUV.out.1; omega
            have hv9 : (v : Int) ≤ 9000000000000000000 := by have := HUV.out.2.1; omega
            have hr9 : ((u % v : Nat) : Int) ≤ 9000000000000000000 := by have := HUV.out.2.1; omega
            clear huv hlt2
            go_wp2_with fail
            go_quiet (fail)
            go_wp2
            first
              | (go_roundw
                 case rel => exact ⟨_, v, u % v, rfl, rfl, rfl, ⟨HUV.out.2.1, by have := HLT2.out; have := HUV.out.2.1; omega, by rw [← HUV.out.2.2, Nat.gcd_comm v, ← Nat.gcd_rec, Nat.gcd_comm]⟩, below_drewN hbi _⟩
                 case measure => exact HLT2.out)
              | exact ⟨⟨_, v, u % v, rfl, rfl, rfl, ⟨HUV.out.2.1, by have := HLT2.out; have := HUV.out.2.1; omega, by rw [← HUV.out.2.2, Nat.gcd_comm v, ← Nat.gcd_rec, Nat.gcd_comm]⟩, below_drewN hbi _⟩, HLT2.out⟩
      · have HS := Lib.hid ((gl_step (ts := zs) (k := 1) (n := b) (by rw [HZS.out]; rfl)).1)
        have HX := Lib.hid HB.out.1.2
        have hmax : max b (-b) = ((b.natAbs : Nat) : Int) := by omega
        have hm1 : -9000000000000000000 ≤ b ∧ b ≤ 9000000000000000000 := by have := HX.out; omega
        clear hk hlt
        go_wp2_with fail
        clear hmax hm1
        go_loopw [3, 6] (fun s3 s6 wi => ∃ (wq : World) (u v : Nat), wq = wi ∧ s3 = .int .i64 (u : Int) ∧ s6 = .int .i64 (v : Int) ∧ (u ≤ 9000000000000000000 ∧ v ≤ 9000000000000000000 ∧ Nat.gcd u v = Nat.gcd g b.natAbs) ∧ Below wr.heap.size wr wq) (fun _ y _ => (intOf y).natAbs)
        case atStart => exact ⟨_, g, b.natAbs, rfl, rfl, rfl, ⟨HGG.out.2, HX.out, rfl⟩, Below.refl _ _⟩
        case round =>
          obtain ⟨wi, u, v, rfl, rfl, rfl, huv, hbi⟩ := hrel
          have HUV := Lib.hid huv
          by_cases hv0 : v = 0
          · subst hv0
            clear huv
            have hu : u = Nat.gcd g b.natAbs := by have := HUV.out.2.2; rwa [Nat.gcd_zero_right] at this
            have HU := Lib.hid hu
            have HUB := Lib.hid HUV.out.1
            have g0 := (hbi.block _ (heap_lt HH0.out)).trans HH0.out
            have g1 := (hbi.block _ (heap_lt HH1.out)).trans HH1.out
            have HF0 := Lib.hid g0
            have HF1 := Lib.hid g1
            have hbf := below_trans hbr hbi
            clear hu g0 g1
            go_wp2_with fail
            have HFIN := Lib.hid (show u = gl (zs.take 2) by rw [HU.out, HGG.out.1]; exact HS.out.symm)
            first
              | exact ⟨⟨_, 2, u, rfl, by decide, rfl, rfl, ⟨HFIN.out, HUB.out⟩, hbf, HF0.out, HF1.out⟩, (by decide : (5 - (2 : Int)).toNat < (5 - (1 : Int)).toNat)⟩
              | (refine ⟨?_, ?_⟩
                 · (repeat apply Exists.intro)
                   refine ⟨?_, rfl⟩
                   exact ⟨_, 2, u, rfl, by decide, rfl, rfl, ⟨HFIN.out, HUB.out⟩, hbf, HF0.out, HF1.out⟩
                 · exact (by decide : (5 - (2 : Int)).toNat < (5 - (1 : Int)).toNat))
          · have hrem : (u : Int).tmod (v : Int) = ((u % v : Nat) : Int) := (Int.ofNat_tmod u v).symm
            have hlt2 := Nat.mod_lt u (show 0 < v by omega)
            have HLT2 := Lib.hid hlt2
            have hu9 : (u : Int) ≤ 9000000000000000000 := by have := HUV.out.1; omega
            have hv9 : (v : Int) ≤ 9000000000000000000 := by have := HUV.out.2.1; omega
            have hr9 : ((u % v : Nat) : Int) ≤ 9000000000000000000 := by have := HUV.out.2.1; omega
            clear huv hlt2
            go_wp2_with fail
            go_quiet (fail)
            go_wp2
            first
              | (go_roundw
                 case rel => exact ⟨_, v, u % v, rfl, rfl, rfl, ⟨HUV.out.2.1, by have := HLT2.out; have := HUV.out.2.1; omega, by rw [← HUV.out.2.2, Nat.gcd_comm v, ← Nat.gcd_rec, Nat.gcd_comm]⟩, below_drewN hbi _⟩
                 case measure => exact HLT2.out)
              | exact ⟨⟨_, v, u % v, rfl, rfl, rfl, ⟨HUV.out.2.1, by have := HLT2.out; have := HUV.out.2.1; omega, by rw [← HUV.out.2.2, Nat.gcd_comm v, ← Nat.gcd_rec, Nat.gcd_comm]⟩, below_drewN hbi _⟩, HLT2.out⟩
      · have HS := Lib.hid ((gl_step (ts := zs) (k := 2) (n := c) (by rw [HZS.out]; rfl)).1)
        have HX := Lib.hid HB.out.2.1
        have hmax : max c (-c) = ((c.natAbs : Nat) : Int) := by omega
        have hm1 : -9000000000000000000 ≤ c ∧ c ≤ 9000000000000000000 := by have := HX.out; omega
        clear hk hlt
        go_wp2_with fail
        clear hmax hm1
        go_loopw [3, 6] (fun s3 s6 wi => ∃ (wq : World) (u v : Nat), wq = wi ∧ s3 = .int .i64 (u : Int) ∧ s6 = .int .i64 (v : Int) ∧ (u ≤ 9000000000000000000 ∧ v ≤ 9000000000000000000 ∧ Nat.gcd u v = Nat.gcd g c.natAbs) ∧ Below wr.heap.size wr wq) (fun _ y _ => (intOf y).natAbs)
        case atStart => exact ⟨_, g, c.natAbs, rfl, rfl, rfl, ⟨HGG.out.2, HX.out, rfl⟩, Below.refl _ _⟩
        case round =>
          obtain ⟨wi, u, v, rfl, rfl, rfl, huv, hbi⟩ := hrel
          have HUV := Lib.hid huv
          by_cases hv0 : v = 0
          · subst hv0
            clear huv
            have hu : u = Nat.gcd g c.natAbs := by have := HUV.out.2.2; rwa [Nat.gcd_zero_right] at this
            have HU := Lib.hid hu
            have HUB := Lib.hid HUV.out.1
            have g0 := (hbi.block _ (heap_lt HH0.out)).trans HH0.out
            have g1 := (hbi.block _ (heap_lt HH1.out)).trans HH1.out
            have HF0 := Lib.hid g0
            have HF1 := Lib.hid g1
            have hbf := below_trans hbr hbi
            clear hu g0 g1
            go_wp2_with fail
            have HFIN := Lib.hid (show u = gl (zs.take 3) by rw [HU.out, HGG.out.1]; exact HS.out.symm)
            first
              | exact ⟨⟨_, 3, u, rfl, by decide, rfl, rfl, ⟨HFIN.out, HUB.out⟩, hbf, HF0.out, HF1.out⟩, (by decide : (5 - (3 : Int)).toNat < (5 - (2 : Int)).toNat)⟩
              | (refine ⟨?_, ?_⟩
                 · (repeat apply Exists.intro)
                   refine ⟨?_, rfl⟩
                   exact ⟨_, 3, u, rfl, by decide, rfl, rfl, ⟨HFIN.out, HUB.out⟩, hbf, HF0.out, HF1.out⟩
                 · exact (by decide : (5 - (3 : Int)).toNat < (5 - (2 : Int)).toNat))
          · have hrem : (u : Int).tmod (v : Int) = ((u % v : Nat) : Int) := (Int.ofNat_tmod u v).symm
            have hlt2 := Nat.mod_lt u (show 0 < v by omega)
            have HLT2 := Lib.hid hlt2
            have hu9 : (u : Int) ≤ 9000000000000000000 := by have := HUV.out.1; omega
            have hv9 : (v : Int) ≤ 9000000000000000000 := by have := HUV.out.2.1; omega
            have hr9 : ((u % v : Nat) : Int) ≤ 9000000000000000000 := by have := HUV.out.2.1; omega
            clear huv hlt2
            go_wp2_with fail
            go_quiet (fail)
            go_wp2
            first
              | (go_roundw
                 case rel => exact ⟨_, v, u % v, rfl, rfl, rfl, ⟨HUV.out.2.1, by have := HLT2.out; have := HUV.out.2.1; omega, by rw [← HUV.out.2.2, Nat.gcd_comm v, ← Nat.gcd_rec, Nat.gcd_comm]⟩, below_drewN hbi _⟩
                 case measure => exact HLT2.out)
              | exact ⟨⟨_, v, u % v, rfl, rfl, rfl, ⟨HUV.out.2.1, by have := HLT2.out; have := HUV.out.2.1; omega, by rw [← HUV.out.2.2, Nat.gcd_comm v, ← Nat.gcd_rec, Nat.gcd_comm]⟩, below_drewN hbi _⟩, HLT2.out⟩
      · have HS := Lib.hid ((gl_step (ts := zs) (k := 3) (n := d) (by rw [HZS.out]; rfl)).1)
        have HX := Lib.hid HB.out.2.2
        have hmax : max d (-d) = ((d.natAbs : Nat) : Int) := by omega
        have hm1 : -9000000000000000000 ≤ d ∧ d ≤ 9000000000000000000 := by have := HX.out; omega
        clear hk hlt
        go_wp2_with fail
        clear hmax hm1
        go_loopw [3, 6] (fun s3 s6 wi => ∃ (wq : World) (u v : Nat), wq = wi ∧ s3 = .int .i64 (u : Int) ∧ s6 = .int .i64 (v : Int) ∧ (u ≤ 9000000000000000000 ∧ v ≤ 9000000000000000000 ∧ Nat.gcd u v = Nat.gcd g d.natAbs) ∧ Below wr.heap.size wr wq) (fun _ y _ => (intOf y).natAbs)
        case atStart => exact ⟨_, g, d.natAbs, rfl, rfl, rfl, ⟨HGG.out.2, HX.out, rfl⟩, Below.refl _ _⟩
        case round =>
          obtain ⟨wi, u, v, rfl, rfl, rfl, huv, hbi⟩ := hrel
          have HUV := Lib.hid huv
          by_cases hv0 : v = 0
          · subst hv0
            clear huv
            have hu : u = Nat.gcd g d.natAbs := by have := HUV.out.2.2; rwa [Nat.gcd_zero_right] at this
            have HU := Lib.hid hu
            have HUB := Lib.hid HUV.out.1
            have g0 := (hbi.block _ (heap_lt HH0.out)).trans HH0.out
            have g1 := (hbi.block _ (heap_lt HH1.out)).trans HH1.out
            have HF0 := Lib.hid g0
            have HF1 := Lib.hid g1
            have hbf := below_trans hbr hbi
            clear hu g0 g1
            go_wp2_with fail
            have HFIN := Lib.hid (show u = gl (zs.take 4) by rw [HU.out, HGG.out.1]; exact HS.out.symm)
            first
              | exact ⟨⟨_, 4, u, rfl, by decide, rfl, rfl, ⟨HFIN.out, HUB.out⟩, hbf, HF0.out, HF1.out⟩, (by decide : (5 - (4 : Int)).toNat < (5 - (3 : Int)).toNat)⟩
              | (refine ⟨?_, ?_⟩
                 · (repeat apply Exists.intro)
                   refine ⟨?_, rfl⟩
                   exact ⟨_, 4, u, rfl, by decide, rfl, rfl, ⟨HFIN.out, HUB.out⟩, hbf, HF0.out, HF1.out⟩
                 · exact (by decide : (5 - (4 : Int)).toNat < (5 - (3 : Int)).toNat))
          · have hrem : (u : Int).tmod (v : Int) = ((u % v : Nat) : Int) := (Int.ofNat_tmod u v).symm
            have hlt2 := Nat.mod_lt u (show 0 < v by omega)
            have HLT2 := Lib.hid hlt2
            have hu9 : (u : Int) ≤ 9000000000000000000 := by have := HUV.out.1; omega
            have hv9 : (v : Int) ≤ 9000000000000000000 := by have := HUV.out.2.1; omega
            have hr9 : ((u % v : Nat) : Int) ≤ 9000000000000000000 := by have := HUV.out.2.1; omega
            clear huv hlt2
            go_wp2_with fail
            go_quiet (fail)
            go_wp2
            first
              | (go_roundw
                 case rel => exact ⟨_, v, u % v, rfl, rfl, rfl, ⟨HUV.out.2.1, by have := HLT2.out; have := HUV.out.2.1; omega, by rw [← HUV.out.2.2, Nat.gcd_comm v, ← Nat.gcd_rec, Nat.gcd_comm]⟩, below_drewN hbi _⟩
                 case measure => exact HLT2.out)
              | exact ⟨⟨_, v, u % v, rfl, rfl, rfl, ⟨HUV.out.2.1, by have := HLT2.out; have := HUV.out.2.1; omega, by rw [← HUV.out.2.2, Nat.gcd_comm v, ← Nat.gcd_rec, Nat.gcd_comm]⟩, below_drewN hbi _⟩, HLT2.out⟩
    · obtain rfl : k = 4 := by omega
      have hg4 : g = gl zs := by have := HGG.out.1; rwa [show zs.take 4 = zs by rw [HZS.out]; rfl] at this
      have hg0 : 0 < g := by rw [hg4]; exact HGP.out
      have hg9 := HGG.out.2
      have hGs : G = if zs.getD kf 0 < 0 then -(g : Int) else (g : Int) := by
        rw [HG.out]; unfold sG
        rw [HSL.out, ← hg4]
        by_cases hs : zs.getD kf 0 < 0
        · rw [if_pos (sgn_lt.2 hs), if_pos hs]
        · rw [if_neg (fun h => hs (sgn_lt.1 h)), if_neg hs]
      have hcl : ∀ j, j < [a, b, c, d].length → wr.cell? ⟨w.heap.size, j, none⟩ = some (.int .i64 ([a, b, c, d].getD j 0)) := by
        intro j hj
        rw [Lib.cell_of_heap HH0.out]
        match j, hj with
        | 0, _ => rfl
        | 1, _ => rfl
        | 2, _ => rfl
        | 3, _ => rfl
      have HCL := Lib.hid hcl
      have HI := Lib.hid (HIX.out wr hcl)
      have HG4 := Lib.hid hg4
      have HGS := Lib.hid hGs
      have hkc := hcl kf (by have := HKF.out; simpa using this)
      rw [← HZS.out] at hkc
      have hk4 : (kf : Int) < 4 := by have := HKF.out; omega
      obtain ⟨x, hx⟩ : ∃ x, x = zs.getD kf 0 := ⟨_, rfl⟩
      rw [← hx] at hkc hGs
      clear hcl hg4 hk hlt HGS hx
      go_wp2_with fail
      refine HI.out.mono ?_
      rintro e wr ⟨rfl, rfl⟩
      by_cases hx0 : x < 0
      case' pos =>
        rw [if_pos hx0] at hGs
        have hng : -(g : Int) = G := hGs.symm
        clear hGs
        go_wp2_with fail
      case' neg =>
        rw [if_neg hx0] at hGs
        have hng : (g : Int) = G := hGs.symm
        clear hGs
        go_wp2_with fail
      all_goals
        clear hkc hx0 hg0 hg9 hng hk4
        go_loopw [32] (fun i wr' => ∃ (wq : World) (k : Nat), wq = wr' ∧ k ≤ 4 ∧ i = .int .i64 (k : Int) ∧ Below w.heap.size w wq
          ∧ wq.heap[w.heap.size]? = some (.cells #[if 0 < k then .int .i64 p0 else .int .i64 a, if 1 < k then .int .i64 p1 else .int .i64 b, if 2 < k then .int .i64 p2 else .int .i64 c, if 3 < k then .int .i64 p3 else .int .i64 d] 22 (0, 0)) ∧ wq.heap[w.heap.size + 1]? = some (.cells #[.int .i64 0, .int .i64 0, .int .i64 0, .int .i64 0] 22 (0, 0))) (fun i _ => (5 - intOf i).toNat)
        case atStart => exact ⟨_, 0, rfl, by omega, rfl, hbr, by simpa using HH0.out, HH1.out⟩
        case round =>
          clear hbr HH0 HH1 HCL HI
          obtain ⟨wr, k, rfl, hk, rfl, hbr, hh0, hh1⟩ := hrel
          have HH0 := Lib.hid hh0
          have HH1 := Lib.hid hh1
          clear hh0 hh1
          by_cases hlt : k < 4
          · rcases (show k = 0 ∨ k = 1 ∨ k = 2 ∨ k = 3 by omega) with rfl | rfl | rfl | rfl
            · have gp : wr.heap[w.heap.size]? = some (.cells #[.int .i64 a, .int .i64 b, .int .i64 c, .int .i64 d] 22 (0, 0)) := HH0.out
              have hdv := HP.out.1.1
              have hpb : -9000000000000000000 ≤ p0 ∧ p0 ≤ 9000000000000000000 := by have := HQ.out.1.1; omega
              have hxb : -9000000000000000000 ≤ a ∧ a ≤ 9000000000000000000 := by have := HB.out.1.1; omega
              have hGn := HGN.out
              have fz : ∀ i, wr.frozen? ⟨w.heap.size, i, none⟩ = false := fun i => Lib.frozen_of_heap gp i
              have c0 := (Lib.cell_of_heap gp 0).trans rfl
              have gs := heap_setCell_same _ _ 0 _ _ (Value.int .i64 p0) gp
              have gs1 := (heap_setCell_other wr ⟨w.heap.size, 0, none⟩ (w.heap.size + 1) (Value.int .i64 p0) (by simp)).trans HH1.out
              have hbs := hbr.setCell (p := ⟨w.heap.size, 0, none⟩) (Nat.le_refl _) (Value.int .i64 p0)
              have GS := Lib.hid gs
              have GS1 := Lib.hid gs1
              clear gp gs gs1 hk hlt
              go_wp2_with fail
              first
                | exact ⟨⟨_, 1, rfl, by decide, rfl, hbs, GS.out, GS1.out⟩, (by decide : (5 - (1 : Int)).toNat < (5 - (0 : Int)).toNat)⟩
                | (refine ⟨?_, ?_⟩
                   · (repeat apply Exists.intro)
                     refine ⟨?_, rfl⟩
                     exact ⟨_, 1, rfl, by decide, rfl, hbs, GS.out, GS1.out⟩
                   · exact (by decide : (5 - (1 : Int)).toNat < (5 - (0 : Int)).toNat))
            · have gp : wr.heap[w.heap.size]? = some (.cells #[.int .i64 p0, .int .i64 b, .int .i64 c, .int .i64 d] 22 (0, 0)) := HH0.out
              have hdv := HP.out.1.2
              have hpb : -9000000000000000000 ≤ p1 ∧ p1 ≤ 9000000000000000000 := by have := HQ.out.1.2; omega
              have hxb : -9000000000000000000 ≤ b ∧ b ≤ 9000000000000000000 := by have := HB.out.1.2; omega
              have hGn := HGN.out
              have fz : ∀ i, wr.frozen? ⟨w.heap.size, i, none⟩ = false := fun i => Lib.frozen_of_heap gp i
              have c0 := (Lib.cell_of_heap gp 1).trans rfl
              have gs := heap_setCell_same _ _ 1 _ _ (Value.int .i64 p1) gp
              have gs1 := (heap_setCell_other wr ⟨w.heap.size, 1, none⟩ (w.heap.size + 1) (Value.int .i64 p1) (by simp)).trans HH1.out
              have hbs := hbr.setCell (p := ⟨w.heap.size, 1, none⟩) (Nat.le_refl _) (Value.int .i64 p1)
              have GS := Lib.hid gs
              have GS1 := Lib.hid gs1
              clear gp gs gs1 hk hlt
              go_wp2_with fail
              first
                | exact ⟨⟨_, 2, rfl, by decide, rfl, hbs, GS.out, GS1.out⟩, (by decide : (5 - (2 : Int)).toNat < (5 - (1 : Int)).toNat)⟩
                | (refine ⟨?_, ?_⟩
                   · (repeat apply Exists.intro)
                     refine ⟨?_, rfl⟩
                     exact ⟨_, 2, rfl, by decide, rfl, hbs, GS.out, GS1.out⟩
                   · exact (by decide : (5 - (2 : Int)).toNat < (5 - (1 : Int)).toNat))
            · have gp : wr.heap[w.heap.size]? = some (.cells #[.int .i64 p0, .int .i64 p1, .int .i64 c, .int .i64 d] 22 (0, 0)) := HH0.out
              have hdv := HP.out.2.1
              have hpb : -9000000000000000000 ≤ p2 ∧ p2 ≤ 9000000000000000000 := by have := HQ.out.2.1; omega
              have hxb : -9000000000000000000 ≤ c ∧ c ≤ 9000000000000000000 := by have := HB.out.2.1; omega
              have hGn := HGN.out
              have fz : ∀ i, wr.frozen? ⟨w.heap.size, i, none⟩ = false := fun i => Lib.frozen_of_heap gp i
              have c0 := (Lib.cell_of_heap gp 2).trans rfl
              have gs := heap_setCell_same _ _ 2 _ _ (Value.int .i64 p2) gp
              have gs1 := (heap_setCell_other wr ⟨w.heap.size, 2, none⟩ (w.heap.size + 1) (Value.int .i64 p2) (by simp)).trans HH1.out
              have hbs := hbr.setCell (p := ⟨w.heap.size, 2, none⟩) (Nat.le_refl _) (Value.int .i64 p2)
              have GS := Lib.hid gs
              have GS1 := Lib.hid gs1
              clear gp gs gs1 hk hlt
              go_wp2_with fail
              first
                | exact ⟨⟨_, 3, rfl, by decide, rfl, hbs, GS.out, GS1.out⟩, (by decide : (5 - (3 : Int)).toNat < (5 - (2 : Int)).toNat)⟩
                | (refine ⟨?_, ?_⟩
                   · (repeat apply Exists.intro)
                     refine ⟨?_, rfl⟩
                     exact ⟨_, 3, rfl, by decide, rfl, hbs, GS.out, GS1.out⟩
                   · exact (by decide : (5 - (3 : Int)).toNat < (5 - (2 : Int)).toNat))
            · have gp : wr.heap[w.heap.size]? = some (.cells #[.int .i64 p0, .int .i64 p1, .int .i64 p2, .int .i64 d] 22 (0, 0)) := HH0.out
              have hdv := HP.out.2.2
              have hpb : -9000000000000000000 ≤ p3 ∧ p3 ≤ 9000000000000000000 := by have := HQ.out.2.2; omega
              have hxb : -9000000000000000000 ≤ d ∧ d ≤ 9000000000000000000 := by have := HB.out.2.2; omega
              have hGn := HGN.out
              have fz : ∀ i, wr.frozen? ⟨w.heap.size, i, none⟩ = false := fun i => Lib.frozen_of_heap gp i
              have c0 := (Lib.cell_of_heap gp 3).trans rfl
              have gs := heap_setCell_same _ _ 3 _ _ (Value.int .i64 p3) gp
              have gs1 := (heap_setCell_other wr ⟨w.heap.size, 3, none⟩ (w.heap.size + 1) (Value.int .i64 p3) (by simp)).trans HH1.out
              have hbs := hbr.setCell (p := ⟨w.heap.size, 3, none⟩) (Nat.le_refl _) (Value.int .i64 p3)
              have GS := Lib.hid gs
              have GS1 := Lib.hid gs1
              clear gp gs gs1 hk hlt
              go_wp2_with fail
              first
                | exact ⟨⟨_, 4, rfl, by decide, rfl, hbs, GS.out, GS1.out⟩, (by decide : (5 - (4 : Int)).toNat < (5 - (3 : Int)).toNat)⟩
                | (refine ⟨?_, ?_⟩
                   · (repeat apply Exists.intro)
                     refine ⟨?_, rfl⟩
                     exact ⟨_, 4, rfl, by decide, rfl, hbs, GS.out, GS1.out⟩
                   · exact (by decide : (5 - (4 : Int)).toNat < (5 - (3 : Int)).toNat))
          · obtain rfl : k = 4 := by omega
            have gp : wr.heap[w.heap.size]? = some (.cells #[.int .i64 p0, .int .i64 p1, .int .i64 p2, .int .i64 p3] 22 (0, 0)) := HH0.out
            have x0 := (Lib.cell_of_heap gp 0).trans rfl
            have x1 := (Lib.cell_of_heap gp 1).trans rfl
            have x2 := (Lib.cell_of_heap gp 2).trans rfl
            have x3 := (Lib.cell_of_heap gp 3).trans rfl
            have d0 := (Lib.cell_of_heap HH1.out 0).trans rfl
            have d1 := (Lib.cell_of_heap HH1.out 1).trans rfl
            have d2 := (Lib.cell_of_heap HH1.out 2).trans rfl
            have d3 := (Lib.cell_of_heap HH1.out 3).trans rfl
            have fz : ∀ i, wr.frozen? ⟨w.heap.size + 1, i, none⟩ = false := fun i => Lib.frozen_of_heap HH1.out i
            clear gp hk hlt
            go_wp2_with fail
            have h1 := heap_setCell_same _ _ 0 _ _ (.int .i64 p0) HH1.out
            have h2 := heap_setCell_same _ _ 1 _ _ (.int .i64 p1) h1
            have h3 := heap_setCell_same _ _ 2 _ _ (.int .i64 p2) h2
            have h4 := heap_setCell_same _ _ 3 _ _ (.int .i64 p3) h3
            exact bodyPost_ret (v := qv p0 p1 p2 p3) (by simp [results, Tryz.results55, go_sem, Lib.cell_of_heap h4]) rfl ⟨rfl, (((hbr.setCell (by simp) _).setCell (by simp) _).setCell (by simp) _).setCell (by simp) _⟩
end Go.Proofs.Kl
/- rotation: Primitive, Inverse, Same, bounded, Compose at right quaternions. -/
namespace Go.Proofs.Kl
open Go.RowKit Go.Shelf
/-- the primitive quaternion. -/
abbrev pq (a b c d : Int) : Value := qv (a.tdiv (sG [a, b, c, d])) (b.tdiv (sG [a, b, c, d])) (c.tdiv (sG [a, b, c, d])) (d.tdiv (sG [a, b, c, d]))
/-- Prim_any, its parts not written out. -/
theorem Prim_parts (a b c d : Int) (h0 : ¬ (a = 0 ∧ b = 0 ∧ c = 0 ∧ d = 0)) (ha : a.natAbs ≤ 9000000000000000000) (hb : b.natAbs ≤ 9000000000000000000) (hc : c.natAbs ≤ 9000000000000000000) (hd : d.natAbs ≤ 9000000000000000000) :
    ∃ p0 p1 p2 p3 : Int, pq a b c d = qv p0 p1 p2 p3 ∧ ∀ w, Calls Tryz.prog 55 #[qv a b c d] w (Ret (qv p0 p1 p2 p3) w) :=
  ⟨_, _, _, _, rfl, fun w => Prim_any a b c d w h0 ha hb hc hd⟩
theorem qchk_bd {a b c d : Int} (h : qchk a b c d = 0) : ¬ (a = 0 ∧ b = 0 ∧ c = 0 ∧ d = 0) ∧ a.natAbs ≤ 1000000 ∧ b.natAbs ≤ 1000000 ∧ c.natAbs ≤ 1000000 ∧ d.natAbs ≤ 1000000 := by
  obtain ⟨h1, h2, h3, h4, h5⟩ := qchk_zero h
  exact ⟨h5, by omega, by omega, by omega, by omega⟩
set_option maxHeartbeats 4000000 in
set_option maxRecDepth 100000 in
theorem Primitive_ok (a b c d : Int) (w : World) (h : qchk a b c d = 0) :
    Calls Tryz.prog 23 #[qv a b c d] w (Ret (.tuple #[pq a b c d, .int .i64 0]) w) := by
  have HQ := Lib.hid (fun w' => QCheck_any a b c d w')
  rw [h] at HQ
  obtain ⟨k1, k2, k3, k4, -⟩ := qchk_zero h
  obtain ⟨p0, p1, p2, p3, hp, hpr⟩ := Prim_parts a b c d (qchk_bd h).1 (by omega) (by omega) (by omega) (by omega)
  rw [hp]
  have HP := Lib.hid hpr
  clear hp hpr h
  have hb0 := ((Below.refl w.heap.size w).alloc (Nat.le_refl _) (.cells #[.int .i64 a, .int .i64 b, .int .i64 c, .int .i64 d] 22)).alloc (by simp) (.cells #[.int .i64 0, .int .i64 0, .int .i64 0, .int .i64 0] 22)
  have K0 : Hid (KBl ((w.alloc (.cells #[.int .i64 a, .int .i64 b, .int .i64 c, .int .i64 d] 22)).alloc (.cells #[.int .i64 0, .int .i64 0, .int .i64 0, .int .i64 0] 22)) [(w.heap.size, .cells #[.int .i64 a, .int .i64 b, .int .i64 c, .int .i64 d] 22), (w.heap.size + 1, .cells #[.int .i64 0, .int .i64 0, .int .i64 0, .int .i64 0] 22)]) := Lib.hid (by
    have := ((KBl.nil w).alloc (.cells #[.int .i64 a, .int .i64 b, .int .i64 c, .int .i64 d] 22)).alloc (.cells #[.int .i64 0, .int .i64 0, .int .i64 0, .int .i64 0] 22)
    intro p hp
    refine this p ?_
    simpa [or_comm] using hp)
  go_enter Tryz.func23, Tryz.ntmps23
  go_wp2_with fail
  refine (HQ.out _).mono ?_
  rintro e w1 ⟨rfl, hb1⟩
  have hw1 := below_trans hb0 hb1
  have K1 := Lib.hid (K0.out.below hb1)
  have x0 := (K1.out.cell (b := w.heap.size) (cs := #[.int .i64 a, .int .i64 b, .int .i64 c, .int .i64 d]) (t := 22) (by simp) 0).trans rfl
  have x1 := (K1.out.cell (b := w.heap.size) (cs := #[.int .i64 a, .int .i64 b, .int .i64 c, .int .i64 d]) (t := 22) (by simp) 1).trans rfl
  have x2 := (K1.out.cell (b := w.heap.size) (cs := #[.int .i64 a, .int .i64 b, .int .i64 c, .int .i64 d]) (t := 22) (by simp) 2).trans rfl
  have x3 := (K1.out.cell (b := w.heap.size) (cs := #[.int .i64 a, .int .i64 b, .int .i64 c, .int .i64 d]) (t := 22) (by simp) 3).trans rfl
  go_wp2_with fail
  refine (HP.out _).mono ?_
  rintro e w2 ⟨rfl, hb2⟩
  have hw2 := below_trans hw1 hb2
  have K2 := Lib.hid (K1.out.below hb2)
  have fz : ∀ i, w2.frozen? ⟨w.heap.size + 1, i, none⟩ = false := fun i => Lib.frozen_of_heap (K2.out (w.heap.size + 1, .cells #[.int .i64 0, .int .i64 0, .int .i64 0, .int .i64 0] 22) (by simp)) i
  have d0 := (K2.out.cell (b := w.heap.size + 1) (cs := #[.int .i64 0, .int .i64 0, .int .i64 0, .int .i64 0]) (t := 22) (by simp) 0).trans rfl
  have d1 := (K2.out.cell (b := w.heap.size + 1) (cs := #[.int .i64 0, .int .i64 0, .int .i64 0, .int .i64 0]) (t := 22) (by simp) 1).trans rfl
  have d2 := (K2.out.cell (b := w.heap.size + 1) (cs := #[.int .i64 0, .int .i64 0, .int .i64 0, .int .i64 0]) (t := 22) (by simp) 2).trans rfl
  have d3 := (K2.out.cell (b := w.heap.size + 1) (cs := #[.int .i64 0, .int .i64 0, .int .i64 0, .int .i64 0]) (t := 22) (by simp) 3).trans rfl
  go_wp2_with fail
  have hk1 := K2.out (w.heap.size + 1, .cells #[.int .i64 0, .int .i64 0, .int .i64 0, .int .i64 0] 22) (by simp)
  have h1 := heap_setCell_same _ _ 0 _ _ (.int .i64 p0) hk1
  have h2 := heap_setCell_same _ _ 1 _ _ (.int .i64 p1) h1
  have h3 := heap_setCell_same _ _ 2 _ _ (.int .i64 p2) h2
  have h4 := heap_setCell_same _ _ 3 _ _ (.int .i64 p3) h3
  exact bodyPost_ret (v := .tuple #[qv p0 p1 p2 p3, .int .i64 0]) (by simp [results, Tryz.results23, go_sem, Lib.cell_of_heap h4]) rfl ⟨rfl, ((((hw2.setCell (by simp) _).setCell (by simp) _).setCell (by simp) _).setCell (by simp) _)⟩
set_option maxHeartbeats 4000000 in
set_option maxRecDepth 100000 in
theorem Inverse_ok (a b c d : Int) (w : World) (h : qchk a b c d = 0) :
    Calls Tryz.prog 24 #[qv a b c d] w (Ret (.tuple #[pq a (-b) (-c) (-d), .int .i64 0]) w) := by
  have HQ := Lib.hid (fun w' => QCheck_any a b c d w')
  rw [h] at HQ
  obtain ⟨k1, k2, k3, k4, -⟩ := qchk_zero h
  obtain ⟨p0, p1, p2, p3, hp, hpr⟩ := Prim_parts a (-b) (-c) (-d) (by have := (qchk_bd h).1; omega) (by omega) (by omega) (by omega) (by omega)
  rw [hp]
  have HP := Lib.hid hpr
  clear hp hpr h
  have hb0 := ((Below.refl w.heap.size w).alloc (Nat.le_refl _) (.cells #[.int .i64 a, .int .i64 b, .int .i64 c, .int .i64 d] 22)).alloc (by simp) (.cells #[.int .i64 0, .int .i64 0, .int .i64 0, .int .i64 0] 22)
  have K0 : Hid (KBl ((w.alloc (.cells #[.int .i64 a, .int .i64 b, .int .i64 c, .int .i64 d] 22)).alloc (.cells #[.int .i64 0, .int .i64 0, .int .i64 0, .int .i64 0] 22)) [(w.heap.size, .cells #[.int .i64 a, .int .i64 b, .int .i64 c, .int .i64 d] 22), (w.heap.size + 1, .cells #[.int .i64 0, .int .i64 0, .int .i64 0, .int .i64 0] 22)]) := Lib.hid (by
    have := ((KBl.nil w).alloc (.cells #[.int .i64 a, .int .i64 b, .int .i64 c, .int .i64 d] 22)).alloc (.cells #[.int .i64 0, .int .i64 0, .int .i64 0, .int .i64 0] 22)
    intro p hp
    refine this p ?_
    simpa [or_comm] using hp)
  go_enter Tryz.func24, Tryz.ntmps24
  go_wp2_with fail
  refine (HQ.out _).mono ?_
  rintro e w1 ⟨rfl, hb1⟩
  have hw1 := below_trans hb0 hb1
  have K1 := Lib.hid (K0.out.below hb1)
  have x0 := (K1.out.cell (b := w.heap.size) (cs := #[.int .i64 a, .int .i64 b, .int .i64 c, .int .i64 d]) (t := 22) (by simp) 0).trans rfl
  have x1 := (K1.out.cell (b := w.heap.size) (cs := #[.int .i64 a, .int .i64 b, .int .i64 c, .int .i64 d]) (t := 22) (by simp) 1).trans rfl
  have x2 := (K1.out.cell (b := w.heap.size) (cs := #[.int .i64 a, .int .i64 b, .int .i64 c, .int .i64 d]) (t := 22) (by simp) 2).trans rfl
  have x3 := (K1.out.cell (b := w.heap.size) (cs := #[.int .i64 a, .int .i64 b, .int .i64 c, .int .i64 d]) (t := 22) (by simp) 3).trans rfl
  go_wp2_with fail
  refine (HP.out _).mono ?_
  rintro e w2 ⟨rfl, hb2⟩
  have hw2 := below_trans hw1 hb2
  have K2 := Lib.hid (K1.out.below hb2)
  have fz : ∀ i, w2.frozen? ⟨w.heap.size + 1, i, none⟩ = false := fun i => Lib.frozen_of_heap (K2.out (w.heap.size + 1, .cells #[.int .i64 0, .int .i64 0, .int .i64 0, .int .i64 0] 22) (by simp)) i
  have d0 := (K2.out.cell (b := w.heap.size + 1) (cs := #[.int .i64 0, .int .i64 0, .int .i64 0, .int .i64 0]) (t := 22) (by simp) 0).trans rfl
  have d1 := (K2.out.cell (b := w.heap.size + 1) (cs := #[.int .i64 0, .int .i64 0, .int .i64 0, .int .i64 0]) (t := 22) (by simp) 1).trans rfl
  have d2 := (K2.out.cell (b := w.heap.size + 1) (cs := #[.int .i64 0, .int .i64 0, .int .i64 0, .int .i64 0]) (t := 22) (by simp) 2).trans rfl
  have d3 := (K2.out.cell (b := w.heap.size + 1) (cs := #[.int .i64 0, .int .i64 0, .int .i64 0, .int .i64 0]) (t := 22) (by simp) 3).trans rfl
  go_wp2_with fail
  have hk1 := K2.out (w.heap.size + 1, .cells #[.int .i64 0, .int .i64 0, .int .i64 0, .int .i64 0] 22) (by simp)
  have h1 := heap_setCell_same _ _ 0 _ _ (.int .i64 p0) hk1
  have h2 := heap_setCell_same _ _ 1 _ _ (.int .i64 p1) h1
  have h3 := heap_setCell_same _ _ 2 _ _ (.int .i64 p2) h2
  have h4 := heap_setCell_same _ _ 3 _ _ (.int .i64 p3) h3
  exact bodyPost_ret (v := .tuple #[qv p0 p1 p2 p3, .int .i64 0]) (by simp [results, Tryz.results24, go_sem, Lib.cell_of_heap h4]) rfl ⟨rfl, ((((hw2.setCell (by simp) _).setCell (by simp) _).setCell (by simp) _).setCell (by simp) _)⟩
set_option maxHeartbeats 4000000 in
set_option maxRecDepth 100000 in
theorem bounded_any (a b c d : Int) (w : World) (h0 : ¬ (a = 0 ∧ b = 0 ∧ c = 0 ∧ d = 0)) (ha : a.natAbs ≤ 9000000000000000000) (hb : b.natAbs ≤ 9000000000000000000) (hc : c.natAbs ≤ 9000000000000000000) (hd : d.natAbs ≤ 9000000000000000000)
    (p0 p1 p2 p3 : Int) (hp : pq a b c d = qv p0 p1 p2 p3) :
    Calls Tryz.prog 66 #[qv a b c d] w (Ret (if qchk p0 p1 p2 p3 = 0 then .tuple #[qv p0 p1 p2 p3, .int .i64 0] else .tuple #[qv 0 0 0 0, .int .i64 4]) w) := by
  have HP := Lib.hid (fun w' => Prim_any a b c d w' h0 ha hb hc hd)
  have hp' : qv (a.tdiv (sG [a, b, c, d])) (b.tdiv (sG [a, b, c, d])) (c.tdiv (sG [a, b, c, d])) (d.tdiv (sG [a, b, c, d])) = qv p0 p1 p2 p3 := hp
  rw [hp'] at HP
  have HQ := Lib.hid (fun w' => QCheck_any p0 p1 p2 p3 w')
  obtain ⟨R, hR⟩ : ∃ R, R = qchk p0 p1 p2 p3 := ⟨_, rfl⟩
  rw [← hR] at HQ ⊢
  obtain ⟨T, hT⟩ : ∃ T, T = Ret (if R = 0 then .tuple #[qv p0 p1 p2 p3, .int .i64 0] else .tuple #[qv 0 0 0 0, .int .i64 4]) w := ⟨_, rfl⟩
  rw [← hT]
  have HT := Lib.hid hT
  clear hp hp' h0 ha hb hc hd hR hT
  have hb0 := ((Below.refl w.heap.size w).alloc (Nat.le_refl _) (.cells #[.int .i64 a, .int .i64 b, .int .i64 c, .int .i64 d] 22)).alloc (by simp) (.cells #[.int .i64 0, .int .i64 0, .int .i64 0, .int .i64 0] 22)
  have K0 : Hid (KBl ((w.alloc (.cells #[.int .i64 a, .int .i64 b, .int .i64 c, .int .i64 d] 22)).alloc (.cells #[.int .i64 0, .int .i64 0, .int .i64 0, .int .i64 0] 22)) [(w.heap.size, .cells #[.int .i64 a, .int .i64 b, .int .i64 c, .int .i64 d] 22), (w.heap.size + 1, .cells #[.int .i64 0, .int .i64 0, .int .i64 0, .int .i64 0] 22)]) := Lib.hid (by
    have := ((KBl.nil w).alloc (.cells #[.int .i64 a, .int .i64 b, .int .i64 c, .int .i64 d] 22)).alloc (.cells #[.int .i64 0, .int .i64 0, .int .i64 0, .int .i64 0] 22)
    intro p hp
    refine this p ?_
    simpa [or_comm] using hp)
  go_enter Tryz.func66, Tryz.ntmps66
  go_wp2_with fail
  refine (HP.out _).mono ?_
  rintro e w1 ⟨rfl, hb1⟩
  have hw1 := below_trans hb0 hb1
  have K1 := Lib.hid (K0.out.below hb1)
  have fz : ∀ i, w1.frozen? ⟨w.heap.size, i, none⟩ = false := fun i => Lib.frozen_of_heap (K1.out (w.heap.size, .cells #[.int .i64 a, .int .i64 b, .int .i64 c, .int .i64 d] 22) (by simp)) i
  have x0 := (K1.out.cell (b := w.heap.size) (cs := #[.int .i64 a, .int .i64 b, .int .i64 c, .int .i64 d]) (t := 22) (by simp) 0).trans rfl
  have x1 := (K1.out.cell (b := w.heap.size) (cs := #[.int .i64 a, .int .i64 b, .int .i64 c, .int .i64 d]) (t := 22) (by simp) 1).trans rfl
  have x2 := (K1.out.cell (b := w.heap.size) (cs := #[.int .i64 a, .int .i64 b, .int .i64 c, .int .i64 d]) (t := 22) (by simp) 2).trans rfl
  have x3 := (K1.out.cell (b := w.heap.size) (cs := #[.int .i64 a, .int .i64 b, .int .i64 c, .int .i64 d]) (t := 22) (by simp) 3).trans rfl
  have s1 := heap_setCell_same _ _ 0 _ _ (.int .i64 p0) (K1.out (w.heap.size, .cells #[.int .i64 a, .int .i64 b, .int .i64 c, .int .i64 d] 22) (by simp))
  have s2 := heap_setCell_same _ _ 1 _ _ (.int .i64 p1) s1
  have s3 := heap_setCell_same _ _ 2 _ _ (.int .i64 p2) s2
  have s4 := heap_setCell_same _ _ 3 _ _ (.int .i64 p3) s3
  have r4 : ((((w1.setCell ⟨w.heap.size, 0, none⟩ (.int .i64 p0)).setCell ⟨w.heap.size, 1, none⟩ (.int .i64 p1)).setCell ⟨w.heap.size, 2, none⟩ (.int .i64 p2)).setCell ⟨w.heap.size, 3, none⟩ (.int .i64 p3)).heap[w.heap.size + 1]? = some (.cells #[.int .i64 0, .int .i64 0, .int .i64 0, .int .i64 0] 22 (0, 0)) := by
    rw [heap_setCell_other _ _ _ _ (by simp), heap_setCell_other _ _ _ _ (by simp), heap_setCell_other _ _ _ _ (by simp), heap_setCell_other _ _ _ _ (by simp)]
    exact K1.out (w.heap.size + 1, .cells #[.int .i64 0, .int .i64 0, .int .i64 0, .int .i64 0] 22) (by simp)
  have hws := (((hw1.setCell (p := ⟨w.heap.size, 0, none⟩) (Nat.le_refl _) (.int .i64 p0)).setCell (p := ⟨w.heap.size, 1, none⟩) (Nat.le_refl _) (.int .i64 p1)).setCell (p := ⟨w.heap.size, 2, none⟩) (Nat.le_refl _) (.int .i64 p2)).setCell (p := ⟨w.heap.size, 3, none⟩) (Nat.le_refl _) (.int .i64 p3)
  have y0 := (Lib.cell_of_heap s4 0).trans rfl
  have y1 := (Lib.cell_of_heap s4 1).trans rfl
  have y2 := (Lib.cell_of_heap s4 2).trans rfl
  have y3 := (Lib.cell_of_heap s4 3).trans rfl
  have S4 := Lib.hid s4
  have R4 := Lib.hid r4
  clear s1 s2 s3 s4 r4
  go_wp2_with fail
  refine (HQ.out _).mono ?_
  rintro e w2 ⟨rfl, hb2⟩
  have hw2 := below_trans hws hb2
  have g0 := (hb2.block _ (heap_lt S4.out)).trans S4.out
  have g1 := (hb2.block _ (heap_lt R4.out)).trans R4.out
  have fz2 : ∀ i, w2.frozen? ⟨w.heap.size + 1, i, none⟩ = false := fun i => Lib.frozen_of_heap g1 i
  have z0 := (Lib.cell_of_heap g0 0).trans rfl
  have z1 := (Lib.cell_of_heap g0 1).trans rfl
  have z2 := (Lib.cell_of_heap g0 2).trans rfl
  have z3 := (Lib.cell_of_heap g0 3).trans rfl
  have d0 := (Lib.cell_of_heap g1 0).trans rfl
  have d1 := (Lib.cell_of_heap g1 1).trans rfl
  have d2 := (Lib.cell_of_heap g1 2).trans rfl
  have d3 := (Lib.cell_of_heap g1 3).trans rfl
  have G1 := Lib.hid g1
  clear g0 g1
  by_cases hr : R = 0
  · rw [if_pos hr] at HT
    subst hr
    go_wp2_with fail
    have h1 := heap_setCell_same _ _ 0 _ _ (.int .i64 p0) G1.out
    have h2 := heap_setCell_same _ _ 1 _ _ (.int .i64 p1) h1
    have h3 := heap_setCell_same _ _ 2 _ _ (.int .i64 p2) h2
    have h4 := heap_setCell_same _ _ 3 _ _ (.int .i64 p3) h3
    rw [HT.out]
    exact bodyPost_ret (v := .tuple #[qv p0 p1 p2 p3, .int .i64 0]) (by simp [results, Tryz.results66, go_sem, Lib.cell_of_heap h4]) rfl ⟨rfl, (((hw2.setCell (by simp) _).setCell (by simp) _).setCell (by simp) _).setCell (by simp) _⟩
  · rw [if_neg hr] at HT
    go_wp2_with fail
    have h1 := heap_setCell_same _ _ 0 _ _ (.int .i64 0) G1.out
    have h2 := heap_setCell_same _ _ 1 _ _ (.int .i64 0) h1
    have h3 := heap_setCell_same _ _ 2 _ _ (.int .i64 0) h2
    have h4 := heap_setCell_same _ _ 3 _ _ (.int .i64 0) h3
    rw [HT.out]
    exact bodyPost_ret (v := .tuple #[qv 0 0 0 0, .int .i64 4]) (by simp [results, Tryz.results66, go_sem, Lib.cell_of_heap h4]) rfl ⟨rfl, (((hw2.setCell (by simp) _).setCell (by simp) _).setCell (by simp) _).setCell (by simp) _⟩
abbrev K8 (B : Nat) (a b c d a' b' c' d' : Int) (w' : World) : Prop := w'.cell? ⟨B, 0, none⟩ = some (.int .i64 a) ∧ w'.cell? ⟨B, 1, none⟩ = some (.int .i64 b) ∧ w'.cell? ⟨B, 2, none⟩ = some (.int .i64 c) ∧ w'.cell? ⟨B, 3, none⟩ = some (.int .i64 d) ∧ w'.cell? ⟨B + 1, 0, none⟩ = some (.int .i64 a') ∧ w'.cell? ⟨B + 1, 1, none⟩ = some (.int .i64 b') ∧ w'.cell? ⟨B + 1, 2, none⟩ = some (.int .i64 c') ∧ w'.cell? ⟨B + 1, 3, none⟩ = some (.int .i64 d')
theorem K8_below {B : Nat} {a b c d a' b' c' d' : Int} {W w' : World} (hb : Below W.heap.size W w') (h : K8 B a b c d a' b' c' d' W) : K8 B a b c d a' b' c' d' w' := by
  obtain ⟨h0, h1, h2, h3, h4, h5, h6, h7⟩ := h
  exact ⟨cell_below hb h0, cell_below hb h1, cell_below hb h2, cell_below hb h3, cell_below hb h4, cell_below hb h5, cell_below hb h6, cell_below hb h7⟩
set_option maxHeartbeats 4000000 in
set_option maxRecDepth 100000 in
theorem Same_ok (a b c d a' b' c' d' : Int) (w : World) (h : qchk a b c d = 0) (h' : qchk a' b' c' d' = 0) (p0 p1 p2 p3 r0 r1 r2 r3 : Int) (hp : pq a b c d = qv p0 p1 p2 p3) (hr : pq a' b' c' d' = qv r0 r1 r2 r3) :
    Calls Tryz.prog 27 #[qv a b c d, qv a' b' c' d'] w (Ret (.tuple #[.bool (p0 == r0 && (p1 == r1 && (p2 == r2 && p3 == r3))), .int .i64 0]) w) := by
  have HQ := Lib.hid (fun g w' hg => checks_two a b c d a' b' c' d' g w' hg)
  rw [h, h', show both2 0 0 = 0 from rfl] at HQ
  obtain ⟨k1, k2, k3, k4, k5⟩ := qchk_zero h
  obtain ⟨k1', k2', k3', k4', k5'⟩ := qchk_zero h'
  have hP := fun w' => Prim_any a b c d w' k5 (by omega) (by omega) (by omega) (by omega)
  have hP' := fun w' => Prim_any a' b' c' d' w' k5' (by omega) (by omega) (by omega) (by omega)
  have hp' : qv (a.tdiv (sG [a, b, c, d])) (b.tdiv (sG [a, b, c, d])) (c.tdiv (sG [a, b, c, d])) (d.tdiv (sG [a, b, c, d])) = qv p0 p1 p2 p3 := hp
  have hr' : qv (a'.tdiv (sG [a', b', c', d'])) (b'.tdiv (sG [a', b', c', d'])) (c'.tdiv (sG [a', b', c', d'])) (d'.tdiv (sG [a', b', c', d'])) = qv r0 r1 r2 r3 := hr
  rw [hp'] at hP
  rw [hr'] at hP'
  have HP := Lib.hid hP
  have HP' := Lib.hid hP'
  clear hP hP' hp hp' hr hr' h h' k1 k2 k3 k4 k5 k1' k2' k3' k4' k5'
  obtain ⟨B, hB⟩ : ∃ B, B = (p0 == r0 && (p1 == r1 && (p2 == r2 && p3 == r3))) := ⟨_, rfl⟩
  rw [← hB]
  have HB := Lib.hid hB
  clear hB
  have hb0 := ((((Below.refl w.heap.size w).alloc (Nat.le_refl _) (.cells #[.int .i64 a, .int .i64 b, .int .i64 c, .int .i64 d] 22)).alloc (by simp) (.cells #[.int .i64 a', .int .i64 b', .int .i64 c', .int .i64 d'] 22)).alloc (by simp; omega) (.cells #[.int .i64 a, .int .i64 b, .int .i64 c, .int .i64 d, .int .i64 a', .int .i64 b', .int .i64 c', .int .i64 d'] 22))
  have hg : (((w.alloc (.cells #[.int .i64 a, .int .i64 b, .int .i64 c, .int .i64 d] 22)).alloc (.cells #[.int .i64 a', .int .i64 b', .int .i64 c', .int .i64 d'] 22)).alloc (.cells #[.int .i64 a, .int .i64 b, .int .i64 c, .int .i64 d, .int .i64 a', .int .i64 b', .int .i64 c', .int .i64 d'] 22)).heap[w.heap.size + 1 + 1]? = some (.cells #[.int .i64 a, .int .i64 b, .int .i64 c, .int .i64 d, .int .i64 a', .int .i64 b', .int .i64 c', .int .i64 d'] 22 (0, 0)) := by
    have := World.alloc_heap_new ((w.alloc (.cells #[.int .i64 a, .int .i64 b, .int .i64 c, .int .i64 d] 22)).alloc (.cells #[.int .i64 a', .int .i64 b', .int .i64 c', .int .i64 d'] 22)) (.cells #[.int .i64 a, .int .i64 b, .int .i64 c, .int .i64 d, .int .i64 a', .int .i64 b', .int .i64 c', .int .i64 d'] 22)
    simpa using this
  have HG := Lib.hid hg
  have K0 : Hid (KBl (((w.alloc (.cells #[.int .i64 a, .int .i64 b, .int .i64 c, .int .i64 d] 22)).alloc (.cells #[.int .i64 a', .int .i64 b', .int .i64 c', .int .i64 d'] 22)).alloc (.cells #[.int .i64 a, .int .i64 b, .int .i64 c, .int .i64 d, .int .i64 a', .int .i64 b', .int .i64 c', .int .i64 d'] 22)) [(w.heap.size, .cells #[.int .i64 a, .int .i64 b, .int .i64 c, .int .i64 d] 22), (w.heap.size + 1, .cells #[.int .i64 a', .int .i64 b', .int .i64 c', .int .i64 d'] 22)]) := Lib.hid (by
    have := (((KBl.nil w).alloc (.cells #[.int .i64 a, .int .i64 b, .int .i64 c, .int .i64 d] 22)).alloc (.cells #[.int .i64 a', .int .i64 b', .int .i64 c', .int .i64 d'] 22)).alloc (.cells #[.int .i64 a, .int .i64 b, .int .i64 c, .int .i64 d, .int .i64 a', .int .i64 b', .int .i64 c', .int .i64 d'] 22)
    intro p hp
    refine this p ?_
    simp at hp ⊢
    rcases hp with e | e <;> subst e <;> simp)
  clear hg
  go_enter Tryz.func27, Tryz.ntmps27
  go_wp2_with fail
  refine (HQ.out _ _ HG.out).mono ?_
  rintro e w1 ⟨rfl, hb1⟩
  have hw1 := below_trans hb0 hb1
  have K1 := Lib.hid (K0.out.below hb1)
  have x0 := (K1.out.cell (b := w.heap.size) (cs := #[.int .i64 a, .int .i64 b, .int .i64 c, .int .i64 d]) (t := 22) (by simp) 0).trans rfl
  have x1 := (K1.out.cell (b := w.heap.size) (cs := #[.int .i64 a, .int .i64 b, .int .i64 c, .int .i64 d]) (t := 22) (by simp) 1).trans rfl
  have x2 := (K1.out.cell (b := w.heap.size) (cs := #[.int .i64 a, .int .i64 b, .int .i64 c, .int .i64 d]) (t := 22) (by simp) 2).trans rfl
  have x3 := (K1.out.cell (b := w.heap.size) (cs := #[.int .i64 a, .int .i64 b, .int .i64 c, .int .i64 d]) (t := 22) (by simp) 3).trans rfl
  have y0 := (K1.out.cell (b := w.heap.size + 1) (cs := #[.int .i64 a', .int .i64 b', .int .i64 c', .int .i64 d']) (t := 22) (by simp) 0).trans rfl
  have y1 := (K1.out.cell (b := w.heap.size + 1) (cs := #[.int .i64 a', .int .i64 b', .int .i64 c', .int .i64 d']) (t := 22) (by simp) 1).trans rfl
  have y2 := (K1.out.cell (b := w.heap.size + 1) (cs := #[.int .i64 a', .int .i64 b', .int .i64 c', .int .i64 d']) (t := 22) (by simp) 2).trans rfl
  have y3 := (K1.out.cell (b := w.heap.size + 1) (cs := #[.int .i64 a', .int .i64 b', .int .i64 c', .int .i64 d']) (t := 22) (by simp) 3).trans rfl
  have C1 : Hid (K8 w.heap.size a b c d a' b' c' d' w1) := Lib.hid ⟨x0, x1, x2, x3, y0, y1, y2, y3⟩
  go_upto_region 4 with fail
  have C1d := Lib.hid (show K8 w.heap.size a b c d a' b' c' d' w1.drew from C1.out)
  go_region_held3 (fun w' => w'.cell? ⟨w.heap.size, 0, none⟩ = some (.int .i64 a) ∧ w'.cell? ⟨w.heap.size, 1, none⟩ = some (.int .i64 b) ∧ w'.cell? ⟨w.heap.size, 2, none⟩ = some (.int .i64 c) ∧ w'.cell? ⟨w.heap.size, 3, none⟩ = some (.int .i64 d) ∧ w'.cell? ⟨w.heap.size + 1, 0, none⟩ = some (.int .i64 a') ∧ w'.cell? ⟨w.heap.size + 1, 1, none⟩ = some (.int .i64 b') ∧ w'.cell? ⟨w.heap.size + 1, 2, none⟩ = some (.int .i64 c') ∧ w'.cell? ⟨w.heap.size + 1, 3, none⟩ = some (.int .i64 d'))
    (first
      | with_reducible exact C1.out
      | with_reducible exact C1d.out
      | with_reducible exact K8_below hb3 C1d.out
      | with_reducible exact K8_below hb4 (K8_below hb3 C1d.out))
    (first
      | (go_at_call 55; refine (HP'.out w3).mono ?_; rintro e w4 ⟨rfl, hb4⟩)
      | (go_at_call 55; refine (HP.out _).mono ?_; rintro e w3 ⟨rfl, hb3⟩))
  go_wp2
  go_ret2
  exact ⟨by rw [HB.out]; rfl, below_trans (below_trans hw1.drew hb3) hb4⟩
theorem mul6 {x y : Int} (hx : x.natAbs ≤ 1000000) (hy : y.natAbs ≤ 1000000) : -1000000000000 ≤ x * y ∧ x * y ≤ 1000000000000 := by
  have h : (x * y).natAbs ≤ 1000000 * 1000000 := by rw [Int.natAbs_mul]; exact Nat.mul_le_mul hx hy
  omega
set_option maxHeartbeats 4000000 in
set_option maxRecDepth 100000 in
theorem Compose_ok (a b c d a' b' c' d' : Int) (w : World) (h : qchk a b c d = 0) (h' : qchk a' b' c' d' = 0) (V : Value) (q0 q1 q2 q3 E : Int) (hV : V = .tuple #[qv q0 q1 q2 q3, .int .i64 E])
    (hb : ∀ w', Calls Tryz.prog 66 #[qv (a * a' - b * b' - c * c' - d * d') (a * b' + b * a' + c * d' - d * c') (a * c' - b * d' + c * a' + d * b') (a * d' + b * c' - c * b' + d * a')] w' (Ret V w')) :
    Calls Tryz.prog 28 #[qv a b c d, qv a' b' c' d'] w (Ret V w) := by
  subst hV
  have HQ := Lib.hid (fun g w' hg => checks_two a b c d a' b' c' d' g w' hg)
  rw [h, h', show both2 0 0 = 0 from rfl] at HQ
  obtain ⟨-, ha, hb1, hc, hd⟩ := qchk_bd h
  obtain ⟨-, ha', hb1', hc', hd'⟩ := qchk_bd h'
  have maa := mul6 ha ha'
  have mab := mul6 ha hb1'
  have mac := mul6 ha hc'
  have mad := mul6 ha hd'
  have mba := mul6 hb1 ha'
  have mbb := mul6 hb1 hb1'
  have mbc := mul6 hb1 hc'
  have mbd := mul6 hb1 hd'
  have mca := mul6 hc ha'
  have mcb := mul6 hc hb1'
  have mcc := mul6 hc hc'
  have mcd := mul6 hc hd'
  have mda := mul6 hd ha'
  have mdb := mul6 hd hb1'
  have mdc := mul6 hd hc'
  have mdd := mul6 hd hd'
  have HBD := Lib.hid hb
  clear hb h h' ha hb1 hc hd ha' hb1' hc' hd'
  have hb0 := (((((Below.refl w.heap.size w).alloc (Nat.le_refl _) (.cells #[.int .i64 a, .int .i64 b, .int .i64 c, .int .i64 d] 22)).alloc (by simp) (.cells #[.int .i64 a', .int .i64 b', .int .i64 c', .int .i64 d'] 22)).alloc (by simp; omega) (.cells #[.int .i64 0, .int .i64 0, .int .i64 0, .int .i64 0] 22)).alloc (by simp; omega) (.cells #[.int .i64 a, .int .i64 b, .int .i64 c, .int .i64 d, .int .i64 a', .int .i64 b', .int .i64 c', .int .i64 d'] 22))
  have hg : ((((w.alloc (.cells #[.int .i64 a, .int .i64 b, .int .i64 c, .int .i64 d] 22)).alloc (.cells #[.int .i64 a', .int .i64 b', .int .i64 c', .int .i64 d'] 22)).alloc (.cells #[.int .i64 0, .int .i64 0, .int .i64 0, .int .i64 0] 22)).alloc (.cells #[.int .i64 a, .int .i64 b, .int .i64 c, .int .i64 d, .int .i64 a', .int .i64 b', .int .i64 c', .int .i64 d'] 22)).heap[w.heap.size + 1 + 1 + 1]? = some (.cells #[.int .i64 a, .int .i64 b, .int .i64 c, .int .i64 d, .int .i64 a', .int .i64 b', .int .i64 c', .int .i64 d'] 22 (0, 0)) := by
    have := World.alloc_heap_new (((w.alloc (.cells #[.int .i64 a, .int .i64 b, .int .i64 c, .int .i64 d] 22)).alloc (.cells #[.int .i64 a', .int .i64 b', .int .i64 c', .int .i64 d'] 22)).alloc (.cells #[.int .i64 0, .int .i64 0, .int .i64 0, .int .i64 0] 22)) (.cells #[.int .i64 a, .int .i64 b, .int .i64 c, .int .i64 d, .int .i64 a', .int .i64 b', .int .i64 c', .int .i64 d'] 22)
    simpa using this
  have HG := Lib.hid hg
  have K0 : Hid (KBl ((((w.alloc (.cells #[.int .i64 a, .int .i64 b, .int .i64 c, .int .i64 d] 22)).alloc (.cells #[.int .i64 a', .int .i64 b', .int .i64 c', .int .i64 d'] 22)).alloc (.cells #[.int .i64 0, .int .i64 0, .int .i64 0, .int .i64 0] 22)).alloc (.cells #[.int .i64 a, .int .i64 b, .int .i64 c, .int .i64 d, .int .i64 a', .int .i64 b', .int .i64 c', .int .i64 d'] 22)) [(w.heap.size, .cells #[.int .i64 a, .int .i64 b, .int .i64 c, .int .i64 d] 22), (w.heap.size + 1, .cells #[.int .i64 a', .int .i64 b', .int .i64 c', .int .i64 d'] 22), (w.heap.size + 1 + 1, .cells #[.int .i64 0, .int .i64 0, .int .i64 0, .int .i64 0] 22)]) := Lib.hid (by
    have := ((((KBl.nil w).alloc (.cells #[.int .i64 a, .int .i64 b, .int .i64 c, .int .i64 d] 22)).alloc (.cells #[.int .i64 a', .int .i64 b', .int .i64 c', .int .i64 d'] 22)).alloc (.cells #[.int .i64 0, .int .i64 0, .int .i64 0, .int .i64 0] 22)).alloc (.cells #[.int .i64 a, .int .i64 b, .int .i64 c, .int .i64 d, .int .i64 a', .int .i64 b', .int .i64 c', .int .i64 d'] 22)
    intro p hp
    refine this p ?_
    simp at hp ⊢
    rcases hp with e | e | e <;> subst e <;> simp)
  clear hg
  go_enter Tryz.func28, Tryz.ntmps28
  go_wp2_with fail
  refine (HQ.out _ _ HG.out).mono ?_
  rintro e w1 ⟨rfl, hb1⟩
  have hw1 := below_trans hb0 hb1
  have K1 := Lib.hid (K0.out.below hb1)
  have x0 := (K1.out.cell (b := w.heap.size) (cs := #[.int .i64 a, .int .i64 b, .int .i64 c, .int .i64 d]) (t := 22) (by simp) 0).trans rfl
  have x1 := (K1.out.cell (b := w.heap.size) (cs := #[.int .i64 a, .int .i64 b, .int .i64 c, .int .i64 d]) (t := 22) (by simp) 1).trans rfl
  have x2 := (K1.out.cell (b := w.heap.size) (cs := #[.int .i64 a, .int .i64 b, .int .i64 c, .int .i64 d]) (t := 22) (by simp) 2).trans rfl
  have x3 := (K1.out.cell (b := w.heap.size) (cs := #[.int .i64 a, .int .i64 b, .int .i64 c, .int .i64 d]) (t := 22) (by simp) 3).trans rfl
  have y0 := (K1.out.cell (b := w.heap.size + 1) (cs := #[.int .i64 a', .int .i64 b', .int .i64 c', .int .i64 d']) (t := 22) (by simp) 0).trans rfl
  have y1 := (K1.out.cell (b := w.heap.size + 1) (cs := #[.int .i64 a', .int .i64 b', .int .i64 c', .int .i64 d']) (t := 22) (by simp) 1).trans rfl
  have y2 := (K1.out.cell (b := w.heap.size + 1) (cs := #[.int .i64 a', .int .i64 b', .int .i64 c', .int .i64 d']) (t := 22) (by simp) 2).trans rfl
  have y3 := (K1.out.cell (b := w.heap.size + 1) (cs := #[.int .i64 a', .int .i64 b', .int .i64 c', .int .i64 d']) (t := 22) (by simp) 3).trans rfl
  go_wp2_with fail
  refine (HBD.out _).mono ?_
  rintro e w2 ⟨rfl, hb2⟩
  have hw2 := below_trans hw1 hb2
  have K2 := Lib.hid (K1.out.below hb2)
  have fz : ∀ i, w2.frozen? ⟨w.heap.size + 1 + 1, i, none⟩ = false := fun i => Lib.frozen_of_heap (K2.out (w.heap.size + 1 + 1, .cells #[.int .i64 0, .int .i64 0, .int .i64 0, .int .i64 0] 22) (by simp)) i
  have d0 := (K2.out.cell (b := w.heap.size + 1 + 1) (cs := #[.int .i64 0, .int .i64 0, .int .i64 0, .int .i64 0]) (t := 22) (by simp) 0).trans rfl
  have d1 := (K2.out.cell (b := w.heap.size + 1 + 1) (cs := #[.int .i64 0, .int .i64 0, .int .i64 0, .int .i64 0]) (t := 22) (by simp) 1).trans rfl
  have d2 := (K2.out.cell (b := w.heap.size + 1 + 1) (cs := #[.int .i64 0, .int .i64 0, .int .i64 0, .int .i64 0]) (t := 22) (by simp) 2).trans rfl
  have d3 := (K2.out.cell (b := w.heap.size + 1 + 1) (cs := #[.int .i64 0, .int .i64 0, .int .i64 0, .int .i64 0]) (t := 22) (by simp) 3).trans rfl
  clear maa mab mac mad mba mbb mbc mbd mca mcb mcc mcd mda mdb mdc mdd
  go_wp2_with fail
  have hk1 := K2.out (w.heap.size + 1 + 1, .cells #[.int .i64 0, .int .i64 0, .int .i64 0, .int .i64 0] 22) (by simp)
  have h1 := heap_setCell_same _ _ 0 _ _ (.int .i64 q0) hk1
  have h2 := heap_setCell_same _ _ 1 _ _ (.int .i64 q1) h1
  have h3 := heap_setCell_same _ _ 2 _ _ (.int .i64 q2) h2
  have h4 := heap_setCell_same _ _ 3 _ _ (.int .i64 q3) h3
  exact bodyPost_ret (v := .tuple #[qv q0 q1 q2 q3, .int .i64 E]) (by simp [results, Tryz.results28, go_sem, Lib.cell_of_heap h4]) rfl ⟨rfl, ((((hw2.setCell (by simp; omega) _).setCell (by simp; omega) _).setCell (by simp; omega) _).setCell (by simp; omega) _)⟩
end Go.Proofs.Kl
/- the statements' primitive and product. -/
namespace Go.Proofs.Kl
open Go.RowKit Go.Shelf
theorem sl_val {a b c d : Int} (h : ¬ (a = 0 ∧ b = 0 ∧ c = 0 ∧ d = 0)) : sl [a, b, c, d] = 1 ∨ sl [a, b, c, d] = -1 := by
  have hs : ∀ n : Int, n ≠ 0 → sgn n = 1 ∨ sgn n = -1 := fun n hn => by
    rcases Int.lt_or_gt_of_ne hn with h | h
    · exact .inr (sgn_neg h)
    · exact .inl (sgn_pos h)
  by_cases h0 : a = 0
  · by_cases h1 : b = 0
    · by_cases h2 : c = 0
      · have h3 : d ≠ 0 := fun h3 => h ⟨h0, h1, h2, h3⟩
        have := hs d h3
        simpa [sl, sgn_nul, h0, h1, h2] using this
      · have h4 := sgn_ne h2
        have := hs c h2
        simpa [sl, sgn_nul, h0, h1, h4] using this
    · have h4 := sgn_ne h1
      have := hs b h1
      simpa [sl, sgn_nul, h0, h4] using this
  · have h4 := sgn_ne h0
    have := hs a h0
    simpa [sl, h4] using this
theorem sl_tdiv {a b c d : Int} (h : ¬ (a = 0 ∧ b = 0 ∧ c = 0 ∧ d = 0)) (x : Int) : (sl [a, b, c, d] * x).tdiv ((gl [a, b, c, d] : Nat) : Int) = x.tdiv (sG [a, b, c, d]) := by
  unfold sG
  rcases sl_val h with e | e
  · rw [e, if_neg (by decide), Int.one_mul]
  · rw [e, if_pos (by decide), Int.tdiv_neg, ← Int.neg_tdiv, Int.neg_one_mul]
theorem sl_take_bd (ts : List Int) : ∀ k, k ≤ 4 → ts.length = 4 → (sl (ts.take k) = 0 ∨ sl (ts.take k) = 1 ∨ sl (ts.take k) = -1) := by
  intro k
  induction k with
  | zero => intro _ _; exact .inl rfl
  | succ k ih =>
    intro hk hl
    have h1 := ih (by omega) hl
    have hx : ts[k]? = some (ts[k]'(by omega)) := List.getElem?_eq_getElem (by omega)
    rw [(gl_step hx).2]
    by_cases h0 : sl (ts.take k) = 0
    · rw [if_pos h0]; unfold sgn; split
      · exact .inl rfl
      · split
        · exact .inr (.inr rfl)
        · exact .inr (.inl rfl)
    · rw [if_neg h0]; exact h1
attribute [local go_sem] Instr.index part asIntOf
set_option maxHeartbeats 4000000 in
set_option maxRecDepth 100000 in
theorem LPrim_any (a b c d : Int) (w : World) (h0 : ¬ (a = 0 ∧ b = 0 ∧ c = 0 ∧ d = 0)) (ha : a.natAbs ≤ 9000000000000000000) (hb : b.natAbs ≤ 9000000000000000000) (hc : c.natAbs ≤ 9000000000000000000) (hd : d.natAbs ≤ 9000000000000000000)
    (p0 p1 p2 p3 : Int) (hpq : pq a b c d = qv p0 p1 p2 p3) :
    Calls Tryz.prog 34 #[qv a b c d] w (Ret (qv p0 p1 p2 p3) w) := by
  have HGP := Lib.hid (gl_pos h0)
  have HSV := Lib.hid (sl_val h0)
  have e0 := sl_tdiv h0 a
  have e1 := sl_tdiv h0 b
  have e2 := sl_tdiv h0 c
  have e3 := sl_tdiv h0 d
  have q0 := tdiv_bd (g := sG [a, b, c, d]) ha
  have q1 := tdiv_bd (g := sG [a, b, c, d]) hb
  have q2 := tdiv_bd (g := sG [a, b, c, d]) hc
  have q3 := tdiv_bd (g := sG [a, b, c, d]) hd
  have hpq' : a.tdiv (sG [a, b, c, d]) = p0 ∧ b.tdiv (sG [a, b, c, d]) = p1 ∧ c.tdiv (sG [a, b, c, d]) = p2 ∧ d.tdiv (sG [a, b, c, d]) = p3 := by
    simp only [pq, Value.agg.injEq] at hpq
    have := congrArg Array.toList hpq
    simp at this
    exact this
  obtain ⟨g0, g1, g2, g3⟩ := hpq'
  rw [g0] at e0 q0
  rw [g1] at e1 q1
  rw [g2] at e2 q2
  rw [g3] at e3 q3
  obtain ⟨zs, hzs⟩ : ∃ zs, zs = [a, b, c, d] := ⟨_, rfl⟩
  rw [← hzs] at HGP e0 e1 e2 e3 HSV
  have HZS := Lib.hid hzs
  have HST := Lib.hid (fun k hk => sl_take_bd zs k hk (by rw [hzs]; rfl))
  have HQ := Lib.hid (And.intro (And.intro q0 q1) (And.intro q2 q3))
  have HP := Lib.hid (And.intro (And.intro e0 e1) (And.intro e2 e3))
  have HB := Lib.hid (And.intro (And.intro ha hb) (And.intro hc hd))
  clear hzs g0 g1 g2 g3 hpq q0 q1 q2 q3 e0 e1 e2 e3 ha hb hc hd h0
  go_enter Tryz.func34, Tryz.ntmps34
  go_wp2_with fail
  go_loopw [3, 4] (fun s3 i wr => ∃ (wq : World) (k g : Nat), wq = wr ∧ k ≤ 4 ∧ i = .int .i64 (k : Int) ∧ s3 = .int .i64 (g : Int) ∧ (g = gl (zs.take k) ∧ g ≤ 9000000000000000000) ∧ Below w.heap.size w wq
      ∧ wq.heap[w.heap.size]? = some (.cells #[.int .i64 a, .int .i64 b, .int .i64 c, .int .i64 d] 22 (0, 0)) ∧ wq.heap[w.heap.size + 1]? = some (.cells #[.int .i64 0, .int .i64 0, .int .i64 0, .int .i64 0] 22 (0, 0))) (fun _ i _ => (5 - intOf i).toNat)
  case atStart =>
    refine ⟨_, 0, 0, rfl, by omega, rfl, rfl, ⟨rfl, by omega⟩, ?_, ?_, ?_⟩
    · exact ((Below.refl w.heap.size w).alloc (Nat.le_refl _) _).alloc (by simp) _
    · exact heap_alloc_old _ (World.alloc_heap_new w _)
    · have := World.alloc_heap_new (w.alloc (.cells #[.int .i64 a, .int .i64 b, .int .i64 c, .int .i64 d] 22)) (.cells #[.int .i64 0, .int .i64 0, .int .i64 0, .int .i64 0] 22)
      simpa using this
  case round =>
    obtain ⟨wr, k, g, rfl, hk, rfl, rfl, hg, hbr, hh0, hh1⟩ := hrel
    have HH0 := Lib.hid hh0
    have HH1 := Lib.hid hh1
    have HGG := Lib.hid hg
    clear hh0 hh1 hg
    by_cases hlt : k < 4
    · rcases (show k = 0 ∨ k = 1 ∨ k = 2 ∨ k = 3 by omega) with rfl | rfl | rfl | rfl
      · have HS := Lib.hid ((gl_step (ts := zs) (k := 0) (n := a) (by rw [HZS.out]; rfl)).1)
        have HX := Lib.hid HB.out.1.1
        have hmax : max a (-a) = ((a.natAbs : Nat) : Int) := by omega
        have hm1 : -9000000000000000000 ≤ a ∧ a ≤ 9000000000000000000 := by have := HX.out; omega
        have x0 := (Lib.cell_of_heap HH0.out 0).trans rfl
        clear hk hlt
        go_wp2_with fail
        go_quiet (fail)
        go_wp2_with fail
        clear hmax hm1 x0
        go_loopw [3, 5] (fun s3 s6 wi => ∃ (wq : World) (u v : Nat), wq = wi ∧ s3 = .int .i64 (u : Int) ∧ s6 = .int .i64 (v : Int) ∧ (u ≤ 9000000000000000000 ∧ v ≤ 9000000000000000000 ∧ Nat.gcd u v = Nat.gcd g a.natAbs) ∧ Below wr.heap.size wr wq) (fun _ y _ => (intOf y).natAbs)
        case atStart => exact ⟨_, g, a.natAbs, rfl, rfl, rfl, ⟨HGG.out.2, HX.out, rfl⟩, below_drewN (Below.refl _ _) _⟩
        case round =>
          obtain ⟨wi, u, v, rfl, rfl, rfl, huv, hbi⟩ := hrel
          have HUV := Lib.hid huv
          by_cases hv0 : v = 0
          · subst hv0
            clear huv
            have hu : u = Nat.gcd g a.natAbs := by have := HUV.out.2.2; rwa [Nat.gcd_zero_right] at this
            have HU := Lib.hid hu
            have HUB := Lib.hid HUV.out.1
            have g0 := (hbi.block _ (heap_lt HH0.out)).trans HH0.out
            have g1 := (hbi.block _ (heap_lt HH1.out)).trans HH1.out
            have HF0 := Lib.hid g0
            have HF1 := Lib.hid g1
            have hbf := below_trans hbr hbi
            clear hu g0 g1
            go_wp2_with fail
            have HFIN := Lib.hid (show u = gl (zs.take 1) by rw [HU.out, HGG.out.1]; exact HS.out.symm)
            first
              | exact ⟨⟨_, 1, u, rfl, by decide, rfl, rfl, ⟨HFIN.out, HUB.out⟩, hbf, HF0.out, HF1.out⟩, (by decide : (5 - (1 : Int)).toNat < (5 - (0 : Int)).toNat)⟩
              | (refine ⟨?_, ?_⟩
                 · (repeat apply Exists.intro)
                   refine ⟨?_, rfl⟩
                   exact ⟨_, 1, u, rfl, by decide, rfl, rfl, ⟨HFIN.out, HUB.out⟩, hbf, HF0.out, HF1.out⟩
                 · exact (by decide : (5 - (1 : Int)).toNat < (5 - (0 : Int)).toNat))
          · have hrem : (u : Int).tmod (v : Int) = ((u % v : Nat) : Int) := (Int.ofNat_tmod u v).symm
            have hlt2 := Nat.mod_lt u (show 0 < v by omega)
            have HLT2 := Lib.hid hlt2
            have hu9 : (u : Int) ≤ 9000000000000000000 := by have := HUV.out.1; omega
            have hv9 : (v : Int) ≤ 9000000000000000000 := by have := HUV.out.2.1; omega
            have hr9 : ((u % v : Nat) : Int) ≤ 9000000000000000000 := by have := HUV.out.2.1; omega
            clear huv hlt2
            go_wp2_with fail
            go_quiet (fail)
            go_wp2
            first
              | (go_roundw
                 case rel => exact ⟨_, v, u % v, rfl, rfl, rfl, ⟨HUV.out.2.1, by have := HLT2.out; have := HUV.out.2.1; omega, by rw [← HUV.out.2.2, Nat.gcd_comm v, ← Nat.gcd_rec, Nat.gcd_comm]⟩, below_drewN hbi _⟩
                 case measure => exact HLT2.out)
              | exact ⟨⟨_, v, u % v, rfl, rfl, rfl, ⟨HUV.out.2.1, by have := HLT2.out; have := HUV.out.2.1; omega, by rw [← HUV.out.2.2, Nat.gcd_comm v, ← Nat.gcd_rec, Nat.gcd_comm]⟩, below_drewN hbi _⟩, HLT2.out⟩
      · have HS := Lib.hid ((gl_step (ts := zs) (k := 1) (n := b) (by rw [HZS.out]; rfl)).1)
        have HX := Lib.hid HB.out.1.2
        have hmax : max b (-b) = ((b.natAbs : Nat) : Int) := by omega
        have hm1 : -9000000000000000000 ≤ b ∧ b ≤ 9000000000000000000 := by have := HX.out; omega
        have x0 := (Lib.cell_of_heap HH0.out 1).trans rfl
        clear hk hlt
        go_wp2_with fail
        go_quiet (fail)
        go_wp2_with fail
        clear hmax hm1 x0
        go_loopw [3, 5] (fun s3 s6 wi => ∃ (wq : World) (u v : Nat), wq = wi ∧ s3 = .int .i64 (u : Int) ∧ s6 = .int .i64 (v : Int) ∧ (u ≤ 9000000000000000000 ∧ v ≤ 9000000000000000000 ∧ Nat.gcd u v = Nat.gcd g b.natAbs) ∧ Below wr.heap.size wr wq) (fun _ y _ => (intOf y).natAbs)
        case atStart => exact ⟨_, g, b.natAbs, rfl, rfl, rfl, ⟨HGG.out.2, HX.out, rfl⟩, below_drewN (Below.refl _ _) _⟩
        case round =>
          obtain ⟨wi, u, v, rfl, rfl, rfl, huv, hbi⟩ := hrel
          have HUV := Lib.hid huv
          by_cases hv0 : v = 0
          · subst hv0
            clear huv
            have hu : u = Nat.gcd g b.natAbs := by have := HUV.out.2.2; rwa [Nat.gcd_zero_right] at this
            have HU := Lib.hid hu
            have HUB := Lib.hid HUV.out.1
            have g0 := (hbi.block _ (heap_lt HH0.out)).trans HH0.out
            have g1 := (hbi.block _ (heap_lt HH1.out)).trans HH1.out
            have HF0 := Lib.hid g0
            have HF1 := Lib.hid g1
            have hbf := below_trans hbr hbi
            clear hu g0 g1
            go_wp2_with fail
            have HFIN := Lib.hid (show u = gl (zs.take 2) by rw [HU.out, HGG.out.1]; exact HS.out.symm)
            first
              | exact ⟨⟨_, 2, u, rfl, by decide, rfl, rfl, ⟨HFIN.out, HUB.out⟩, hbf, HF0.out, HF1.out⟩, (by decide : (5 - (2 : Int)).toNat < (5 - (1 : Int)).toNat)⟩
              | (refine ⟨?_, ?_⟩
                 · (repeat apply Exists.intro)
                   refine ⟨?_, rfl⟩
                   exact ⟨_, 2, u, rfl, by decide, rfl, rfl, ⟨HFIN.out, HUB.out⟩, hbf, HF0.out, HF1.out⟩
                 · exact (by decide : (5 - (2 : Int)).toNat < (5 - (1 : Int)).toNat))
          · have hrem : (u : Int).tmod (v : Int) = ((u % v : Nat) : Int) := (Int.ofNat_tmod u v).symm
            have hlt2 := Nat.mod_lt u (show 0 < v by omega)
            have HLT2 := Lib.hid hlt2
            have hu9 : (u : Int) ≤ 9000000000000000000 := by have := HUV.out.1; omega
            have hv9 : (v : Int) ≤ 9000000000000000000 := by have := HUV.out.2.1; omega
            have hr9 : ((u % v : Nat) : Int) ≤ 9000000000000000000 := by have := HUV.out.2.1; omega
            clear huv hlt2
            go_wp2_with fail
            go_quiet (fail)
            go_wp2
            first
              | (go_roundw
                 case rel => exact ⟨_, v, u % v, rfl, rfl, rfl, ⟨HUV.out.2.1, by have := HLT2.out; have := HUV.out.2.1; omega, by rw [← HUV.out.2.2, Nat.gcd_comm v, ← Nat.gcd_rec, Nat.gcd_comm]⟩, below_drewN hbi _⟩
                 case measure => exact HLT2.out)
              | exact ⟨⟨_, v, u % v, rfl, rfl, rfl, ⟨HUV.out.2.1, by have := HLT2.out; have := HUV.out.2.1; omega, by rw [← HUV.out.2.2, Nat.gcd_comm v, ← Nat.gcd_rec, Nat.gcd_comm]⟩, below_drewN hbi _⟩, HLT2.out⟩
      · have HS := Lib.hid ((gl_step (ts := zs) (k := 2) (n := c) (by rw [HZS.out]; rfl)).1)
        have HX := Lib.hid HB.out.2.1
        have hmax : max c (-c) = ((c.natAbs : Nat) : Int) := by omega
        have hm1 : -9000000000000000000 ≤ c ∧ c ≤ 9000000000000000000 := by have := HX.out; omega
        have x0 := (Lib.cell_of_heap HH0.out 2).trans rfl
        clear hk hlt
        go_wp2_with fail
        go_quiet (fail)
        go_wp2_with fail
        clear hmax hm1 x0
        go_loopw [3, 5] (fun s3 s6 wi => ∃ (wq : World) (u v : Nat), wq = wi ∧ s3 = .int .i64 (u : Int) ∧ s6 = .int .i64 (v : Int) ∧ (u ≤ 9000000000000000000 ∧ v ≤ 9000000000000000000 ∧ Nat.gcd u v = Nat.gcd g c.natAbs) ∧ Below wr.heap.size wr wq) (fun _ y _ => (intOf y).natAbs)
        case atStart => exact ⟨_, g, c.natAbs, rfl, rfl, rfl, ⟨HGG.out.2, HX.out, rfl⟩, below_drewN (Below.refl _ _) _⟩
        case round =>
          obtain ⟨wi, u, v, rfl, rfl, rfl, huv, hbi⟩ := hrel
          have HUV := Lib.hid huv
          by_cases hv0 : v = 0
          · subst hv0
            clear huv
            have hu : u = Nat.gcd g c.natAbs := by have := HUV.out.2.2; rwa [Nat.gcd_zero_right] at this
            have HU := Lib.hid hu
            have HUB := Lib.hid HUV.out.1
            have g0 := (hbi.block _ (heap_lt HH0.out)).trans HH0.out
            have g1 := (hbi.block _ (heap_lt HH1.out)).trans HH1.out
            have HF0 := Lib.hid g0
            have HF1 := Lib.hid g1
            have hbf := below_trans hbr hbi
            clear hu g0 g1
            go_wp2_with fail
            have HFIN := Lib.hid (show u = gl (zs.take 3) by rw [HU.out, HGG.out.1]; exact HS.out.symm)
            first
              | exact ⟨⟨_, 3, u, rfl, by decide, rfl, rfl, ⟨HFIN.out, HUB.out⟩, hbf, HF0.out, HF1.out⟩, (by decide : (5 - (3 : Int)).toNat < (5 - (2 : Int)).toNat)⟩
              | (refine ⟨?_, ?_⟩
                 · (repeat apply Exists.intro)
                   refine ⟨?_, rfl⟩
                   exact ⟨_, 3, u, rfl, by decide, rfl, rfl, ⟨HFIN.out, HUB.out⟩, hbf, HF0.out, HF1.out⟩
                 · exact (by decide : (5 - (3 : Int)).toNat < (5 - (2 : Int)).toNat))
          · have hrem : (u : Int).tmod (v : Int) = ((u % v : Nat) : Int) := (Int.ofNat_tmod u v).symm
            have hlt2 := Nat.mod_lt u (show 0 < v by omega)
            have HLT2 := Lib.hid hlt2
            have hu9 : (u : Int) ≤ 9000000000000000000 := by have := HUV.out.1; omega
            have hv9 : (v : Int) ≤ 9000000000000000000 := by have := HUV.out.2.1; omega
            have hr9 : ((u % v : Nat) : Int) ≤ 9000000000000000000 := by have := HUV.out.2.1; omega
            clear huv hlt2
            go_wp2_with fail
            go_quiet (fail)
            go_wp2
            first
              | (go_roundw
                 case rel => exact ⟨_, v, u % v, rfl, rfl, rfl, ⟨HUV.out.2.1, by have := HLT2.out; have := HUV.out.2.1; omega, by rw [← HUV.out.2.2, Nat.gcd_comm v, ← Nat.gcd_rec, Nat.gcd_comm]⟩, below_drewN hbi _⟩
                 case measure => exact HLT2.out)
              | exact ⟨⟨_, v, u % v, rfl, rfl, rfl, ⟨HUV.out.2.1, by have := HLT2.out; have := HUV.out.2.1; omega, by rw [← HUV.out.2.2, Nat.gcd_comm v, ← Nat.gcd_rec, Nat.gcd_comm]⟩, below_drewN hbi _⟩, HLT2.out⟩
      · have HS := Lib.hid ((gl_step (ts := zs) (k := 3) (n := d) (by rw [HZS.out]; rfl)).1)
        have HX := Lib.hid HB.out.2.2
        have hmax : max d (-d) = ((d.natAbs : Nat) : Int) := by omega
        have hm1 : -9000000000000000000 ≤ d ∧ d ≤ 9000000000000000000 := by have := HX.out; omega
        have x0 := (Lib.cell_of_heap HH0.out 3).trans rfl
        clear hk hlt
        go_wp2_with fail
        go_quiet (fail)
        go_wp2_with fail
        clear hmax hm1 x0
        go_loopw [3, 5] (fun s3 s6 wi => ∃ (wq : World) (u v : Nat), wq = wi ∧ s3 = .int .i64 (u : Int) ∧ s6 = .int .i64 (v : Int) ∧ (u ≤ 9000000000000000000 ∧ v ≤ 9000000000000000000 ∧ Nat.gcd u v = Nat.gcd g d.natAbs) ∧ Below wr.heap.size wr wq) (fun _ y _ => (intOf y).natAbs)
        case atStart => exact ⟨_, g, d.natAbs, rfl, rfl, rfl, ⟨HGG.out.2, HX.out, rfl⟩, below_drewN (Below.refl _ _) _⟩
        case round =>
          obtain ⟨wi, u, v, rfl, rfl, rfl, huv, hbi⟩ := hrel
          have HUV := Lib.hid huv
          by_cases hv0 : v = 0
          · subst hv0
            clear huv
            have hu : u = Nat.gcd g d.natAbs := by have := HUV.out.2.2; rwa [Nat.gcd_zero_right] at this
            have HU := Lib.hid hu
            have HUB := Lib.hid HUV.out.1
            have g0 := (hbi.block _ (heap_lt HH0.out)).trans HH0.out
            have g1 := (hbi.block _ (heap_lt HH1.out)).trans HH1.out
            have HF0 := Lib.hid g0
            have HF1 := Lib.hid g1
            have hbf := below_trans hbr hbi
            clear hu g0 g1
            go_wp2_with fail
            have HFIN := Lib.hid (show u = gl (zs.take 4) by rw [HU.out, HGG.out.1]; exact HS.out.symm)
            first
              | exact ⟨⟨_, 4, u, rfl, by decide, rfl, rfl, ⟨HFIN.out, HUB.out⟩, hbf, HF0.out, HF1.out⟩, (by decide : (5 - (4 : Int)).toNat < (5 - (3 : Int)).toNat)⟩
              | (refine ⟨?_, ?_⟩
                 · (repeat apply Exists.intro)
                   refine ⟨?_, rfl⟩
                   exact ⟨_, 4, u, rfl, by decide, rfl, rfl, ⟨HFIN.out, HUB.out⟩, hbf, HF0.out, HF1.out⟩
                 · exact (by decide : (5 - (4 : Int)).toNat < (5 - (3 : Int)).toNat))
          · have hrem : (u : Int).tmod (v : Int) = ((u % v : Nat) : Int) := (Int.ofNat_tmod u v).symm
            have hlt2 := Nat.mod_lt u (show 0 < v by omega)
            have HLT2 := Lib.hid hlt2
            have hu9 : (u : Int) ≤ 9000000000000000000 := by have := HUV.out.1; omega
            have hv9 : (v : Int) ≤ 9000000000000000000 := by have := HUV.out.2.1; omega
            have hr9 : ((u % v : Nat) : Int) ≤ 9000000000000000000 := by have := HUV.out.2.1; omega
            clear huv hlt2
            go_wp2_with fail
            go_quiet (fail)
            go_wp2
            first
              | (go_roundw
                 case rel => exact ⟨_, v, u % v, rfl, rfl, rfl, ⟨HUV.out.2.1, by have := HLT2.out; have := HUV.out.2.1; omega, by rw [← HUV.out.2.2, Nat.gcd_comm v, ← Nat.gcd_rec, Nat.gcd_comm]⟩, below_drewN hbi _⟩
                 case measure => exact HLT2.out)
              | exact ⟨⟨_, v, u % v, rfl, rfl, rfl, ⟨HUV.out.2.1, by have := HLT2.out; have := HUV.out.2.1; omega, by rw [← HUV.out.2.2, Nat.gcd_comm v, ← Nat.gcd_rec, Nat.gcd_comm]⟩, below_drewN hbi _⟩, HLT2.out⟩
    · obtain rfl : k = 4 := by omega
      have hg4 : g = gl zs := by have := HGG.out.1; rwa [show zs.take 4 = zs by rw [HZS.out]; rfl] at this
      have HG4 := Lib.hid (And.intro (show 0 < g by rw [hg4]; exact HGP.out) HGG.out.2)
      rw [← hg4] at HP
      clear hg4 HGP HGG hk hlt
      go_wp2_with fail
      go_loopw [6, 7] (fun s6 i wr' => ∃ (wq : World) (k : Nat) (s : Int), wq = wr' ∧ k ≤ 4 ∧ i = .int .i64 (k : Int) ∧ s6 = .int .i64 s ∧ s = sl (zs.take k) ∧ Below w.heap.size w wq
        ∧ wq.heap[w.heap.size]? = some (.cells #[.int .i64 a, .int .i64 b, .int .i64 c, .int .i64 d] 22 (0, 0)) ∧ wq.heap[w.heap.size + 1]? = some (.cells #[.int .i64 0, .int .i64 0, .int .i64 0, .int .i64 0] 22 (0, 0))) (fun _ i _ => (5 - intOf i).toNat)
      case atStart => exact ⟨_, 0, 0, rfl, by omega, rfl, rfl, rfl, hbr, HH0.out, HH1.out⟩
      case round =>
        clear hbr HH0 HH1
        obtain ⟨wr, k, s, rfl, hk, rfl, rfl, hs, hbr, hh0, hh1⟩ := hrel
        have HH0 := Lib.hid hh0
        have HH1 := Lib.hid hh1
        have HSS := Lib.hid hs
        clear hh0 hh1 hs
        by_cases hlt : k < 4
        · rcases (show k = 0 ∨ k = 1 ∨ k = 2 ∨ k = 3 by omega) with rfl | rfl | rfl | rfl
          · have HS := Lib.hid ((gl_step (ts := zs) (k := 0) (n := a) (by rw [HZS.out]; rfl)).2)
            have x0 := (Lib.cell_of_heap HH0.out 0).trans rfl
            clear hk hlt
            by_cases hs0 : s = 0
            · subst hs0
              rcases Int.lt_trichotomy a 0 with hx | hx | hx
              · have hx2 : ¬ (0 < a) := by omega
                have HV := Lib.hid (show (-1 : Int) = sl (zs.take (0 + 1)) by rw [HS.out, ← HSS.out, if_pos rfl, sgn_neg hx])
                go_wp2_with fail
                first
                  | exact ⟨⟨_, 1, _, rfl, by decide, rfl, rfl, HV.out, hbr, HH0.out, HH1.out⟩, (by decide : (5 - (1 : Int)).toNat < (5 - (0 : Int)).toNat)⟩
                  | (refine ⟨?_, ?_⟩
                     · (repeat apply Exists.intro)
                       refine ⟨?_, rfl⟩
                       exact ⟨_, 1, _, rfl, by decide, rfl, rfl, HV.out, hbr, HH0.out, HH1.out⟩
                     · exact (by decide : (5 - (1 : Int)).toNat < (5 - (0 : Int)).toNat))
              · subst hx
                have HV := Lib.hid (show (0 : Int) = sl (zs.take (0 + 1)) by rw [HS.out, ← HSS.out, if_pos rfl, sgn_nul rfl])
                go_wp2_with fail
                first
                  | exact ⟨⟨_, 1, _, rfl, by decide, rfl, rfl, HV.out, hbr, HH0.out, HH1.out⟩, (by decide : (5 - (1 : Int)).toNat < (5 - (0 : Int)).toNat)⟩
                  | (refine ⟨?_, ?_⟩
                     · (repeat apply Exists.intro)
                       refine ⟨?_, rfl⟩
                       exact ⟨_, 1, _, rfl, by decide, rfl, rfl, HV.out, hbr, HH0.out, HH1.out⟩
                     · exact (by decide : (5 - (1 : Int)).toNat < (5 - (0 : Int)).toNat))
              · have hx2 : ¬ (a < 0) := by omega
                have HV := Lib.hid (show (1 : Int) = sl (zs.take (0 + 1)) by rw [HS.out, ← HSS.out, if_pos rfl, sgn_pos hx])
                go_wp2_with fail
                first
                  | exact ⟨⟨_, 1, _, rfl, by decide, rfl, rfl, HV.out, hbr, HH0.out, HH1.out⟩, (by decide : (5 - (1 : Int)).toNat < (5 - (0 : Int)).toNat)⟩
                  | (refine ⟨?_, ?_⟩
                     · (repeat apply Exists.intro)
                       refine ⟨?_, rfl⟩
                       exact ⟨_, 1, _, rfl, by decide, rfl, rfl, HV.out, hbr, HH0.out, HH1.out⟩
                     · exact (by decide : (5 - (1 : Int)).toNat < (5 - (0 : Int)).toNat))
            · have HV := Lib.hid (show s = sl (zs.take (0 + 1)) by rw [HS.out, ← HSS.out, if_neg hs0])
              go_wp2_with fail
              first
                | exact ⟨⟨_, 1, _, rfl, by decide, rfl, rfl, HV.out, hbr, HH0.out, HH1.out⟩, (by decide : (5 - (1 : Int)).toNat < (5 - (0 : Int)).toNat)⟩
                | (refine ⟨?_, ?_⟩
                   · (repeat apply Exists.intro)
                     refine ⟨?_, rfl⟩
                     exact ⟨_, 1, _, rfl, by decide, rfl, rfl, HV.out, hbr, HH0.out, HH1.out⟩
                   · exact (by decide : (5 - (1 : Int)).toNat < (5 - (0 : Int)).toNat))
          · have HS := Lib.hid ((gl_step (ts := zs) (k := 1) (n := b) (by rw [HZS.out]; rfl)).2)
            have x0 := (Lib.cell_of_heap HH0.out 1).trans rfl
            clear hk hlt
            by_cases hs0 : s = 0
            · subst hs0
              rcases Int.lt_trichotomy b 0 with hx | hx | hx
              · have hx2 : ¬ (0 < b) := by omega
                have HV := Lib.hid (show (-1 : Int) = sl (zs.take (1 + 1)) by rw [HS.out, ← HSS.out, if_pos rfl, sgn_neg hx])
                go_wp2_with fail
                first
                  | exact ⟨⟨_, 2, _, rfl, by decide, rfl, rfl, HV.out, hbr, HH0.out, HH1.out⟩, (by decide : (5 - (2 : Int)).toNat < (5 - (1 : Int)).toNat)⟩
                  | (refine ⟨?_, ?_⟩
                     · (repeat apply Exists.intro)
                       refine ⟨?_, rfl⟩
                       exact ⟨_, 2, _, rfl, by decide, rfl, rfl, HV.out, hbr, HH0.out, HH1.out⟩
                     · exact (by decide : (5 - (2 : Int)).toNat < (5 - (1 : Int)).toNat))
              · subst hx
                have HV := Lib.hid (show (0 : Int) = sl (zs.take (1 + 1)) by rw [HS.out, ← HSS.out, if_pos rfl, sgn_nul rfl])
                go_wp2_with fail
                first
                  | exact ⟨⟨_, 2, _, rfl, by decide, rfl, rfl, HV.out, hbr, HH0.out, HH1.out⟩, (by decide : (5 - (2 : Int)).toNat < (5 - (1 : Int)).toNat)⟩
                  | (refine ⟨?_, ?_⟩
                     · (repeat apply Exists.intro)
                       refine ⟨?_, rfl⟩
                       exact ⟨_, 2, _, rfl, by decide, rfl, rfl, HV.out, hbr, HH0.out, HH1.out⟩
                     · exact (by decide : (5 - (2 : Int)).toNat < (5 - (1 : Int)).toNat))
              · have hx2 : ¬ (b < 0) := by omega
                have HV := Lib.hid (show (1 : Int) = sl (zs.take (1 + 1)) by rw [HS.out, ← HSS.out, if_pos rfl, sgn_pos hx])
                go_wp2_with fail
                first
                  | exact ⟨⟨_, 2, _, rfl, by decide, rfl, rfl, HV.out, hbr, HH0.out, HH1.out⟩, (by decide : (5 - (2 : Int)).toNat < (5 - (1 : Int)).toNat)⟩
                  | (refine ⟨?_, ?_⟩
                     · (repeat apply Exists.intro)
                       refine ⟨?_, rfl⟩
                       exact ⟨_, 2, _, rfl, by decide, rfl, rfl, HV.out, hbr, HH0.out, HH1.out⟩
                     · exact (by decide : (5 - (2 : Int)).toNat < (5 - (1 : Int)).toNat))
            · have HV := Lib.hid (show s = sl (zs.take (1 + 1)) by rw [HS.out, ← HSS.out, if_neg hs0])
              go_wp2_with fail
              first
                | exact ⟨⟨_, 2, _, rfl, by decide, rfl, rfl, HV.out, hbr, HH0.out, HH1.out⟩, (by decide : (5 - (2 : Int)).toNat < (5 - (1 : Int)).toNat)⟩
                | (refine ⟨?_, ?_⟩
                   · (repeat apply Exists.intro)
                     refine ⟨?_, rfl⟩
                     exact ⟨_, 2, _, rfl, by decide, rfl, rfl, HV.out, hbr, HH0.out, HH1.out⟩
                   · exact (by decide : (5 - (2 : Int)).toNat < (5 - (1 : Int)).toNat))
          · have HS := Lib.hid ((gl_step (ts := zs) (k := 2) (n := c) (by rw [HZS.out]; rfl)).2)
            have x0 := (Lib.cell_of_heap HH0.out 2).trans rfl
            clear hk hlt
            by_cases hs0 : s = 0
            · subst hs0
              rcases Int.lt_trichotomy c 0 with hx | hx | hx
              · have hx2 : ¬ (0 < c) := by omega
                have HV := Lib.hid (show (-1 : Int) = sl (zs.take (2 + 1)) by rw [HS.out, ← HSS.out, if_pos rfl, sgn_neg hx])
                go_wp2_with fail
                first
                  | exact ⟨⟨_, 3, _, rfl, by decide, rfl, rfl, HV.out, hbr, HH0.out, HH1.out⟩, (by decide : (5 - (3 : Int)).toNat < (5 - (2 : Int)).toNat)⟩
                  | (refine ⟨?_, ?_⟩
                     · (repeat apply Exists.intro)
                       refine ⟨?_, rfl⟩
                       exact ⟨_, 3, _, rfl, by decide, rfl, rfl, HV.out, hbr, HH0.out, HH1.out⟩
                     · exact (by decide : (5 - (3 : Int)).toNat < (5 - (2 : Int)).toNat))
              · subst hx
                have HV := Lib.hid (show (0 : Int) = sl (zs.take (2 + 1)) by rw [HS.out, ← HSS.out, if_pos rfl, sgn_nul rfl])
                go_wp2_with fail
                first
                  | exact ⟨⟨_, 3, _, rfl, by decide, rfl, rfl, HV.out, hbr, HH0.out, HH1.out⟩, (by decide : (5 - (3 : Int)).toNat < (5 - (2 : Int)).toNat)⟩
                  | (refine ⟨?_, ?_⟩
                     · (repeat apply Exists.intro)
                       refine ⟨?_, rfl⟩
                       exact ⟨_, 3, _, rfl, by decide, rfl, rfl, HV.out, hbr, HH0.out, HH1.out⟩
                     · exact (by decide : (5 - (3 : Int)).toNat < (5 - (2 : Int)).toNat))
              · have hx2 : ¬ (c < 0) := by omega
                have HV := Lib.hid (show (1 : Int) = sl (zs.take (2 + 1)) by rw [HS.out, ← HSS.out, if_pos rfl, sgn_pos hx])
                go_wp2_with fail
                first
                  | exact ⟨⟨_, 3, _, rfl, by decide, rfl, rfl, HV.out, hbr, HH0.out, HH1.out⟩, (by decide : (5 - (3 : Int)).toNat < (5 - (2 : Int)).toNat)⟩
                  | (refine ⟨?_, ?_⟩
                     · (repeat apply Exists.intro)
                       refine ⟨?_, rfl⟩
                       exact ⟨_, 3, _, rfl, by decide, rfl, rfl, HV.out, hbr, HH0.out, HH1.out⟩
                     · exact (by decide : (5 - (3 : Int)).toNat < (5 - (2 : Int)).toNat))
            · have HV := Lib.hid (show s = sl (zs.take (2 + 1)) by rw [HS.out, ← HSS.out, if_neg hs0])
              go_wp2_with fail
              first
                | exact ⟨⟨_, 3, _, rfl, by decide, rfl, rfl, HV.out, hbr, HH0.out, HH1.out⟩, (by decide : (5 - (3 : Int)).toNat < (5 - (2 : Int)).toNat)⟩
                | (refine ⟨?_, ?_⟩
                   · (repeat apply Exists.intro)
                     refine ⟨?_, rfl⟩
                     exact ⟨_, 3, _, rfl, by decide, rfl, rfl, HV.out, hbr, HH0.out, HH1.out⟩
                   · exact (by decide : (5 - (3 : Int)).toNat < (5 - (2 : Int)).toNat))
          · have HS := Lib.hid ((gl_step (ts := zs) (k := 3) (n := d) (by rw [HZS.out]; rfl)).2)
            have x0 := (Lib.cell_of_heap HH0.out 3).trans rfl
            clear hk hlt
            by_cases hs0 : s = 0
            · subst hs0
              rcases Int.lt_trichotomy d 0 with hx | hx | hx
              · have hx2 : ¬ (0 < d) := by omega
                have HV := Lib.hid (show (-1 : Int) = sl (zs.take (3 + 1)) by rw [HS.out, ← HSS.out, if_pos rfl, sgn_neg hx])
                go_wp2_with fail
                first
                  | exact ⟨⟨_, 4, _, rfl, by decide, rfl, rfl, HV.out, hbr, HH0.out, HH1.out⟩, (by decide : (5 - (4 : Int)).toNat < (5 - (3 : Int)).toNat)⟩
                  | (refine ⟨?_, ?_⟩
                     · (repeat apply Exists.intro)
                       refine ⟨?_, rfl⟩
                       exact ⟨_, 4, _, rfl, by decide, rfl, rfl, HV.out, hbr, HH0.out, HH1.out⟩
                     · exact (by decide : (5 - (4 : Int)).toNat < (5 - (3 : Int)).toNat))
              · subst hx
                have HV := Lib.hid (show (0 : Int) = sl (zs.take (3 + 1)) by rw [HS.out, ← HSS.out, if_pos rfl, sgn_nul rfl])
                go_wp2_with fail
                first
                  | exact ⟨⟨_, 4, _, rfl, by decide, rfl, rfl, HV.out, hbr, HH0.out, HH1.out⟩, (by decide : (5 - (4 : Int)).toNat < (5 - (3 : Int)).toNat)⟩
                  | (refine ⟨?_, ?_⟩
                     · (repeat apply Exists.intro)
                       refine ⟨?_, rfl⟩
                       exact ⟨_, 4, _, rfl, by decide, rfl, rfl, HV.out, hbr, HH0.out, HH1.out⟩
                     · exact (by decide : (5 - (4 : Int)).toNat < (5 - (3 : Int)).toNat))
              · have hx2 : ¬ (d < 0) := by omega
                have HV := Lib.hid (show (1 : Int) = sl (zs.take (3 + 1)) by rw [HS.out, ← HSS.out, if_pos rfl, sgn_pos hx])
                go_wp2_with fail
                first
                  | exact ⟨⟨_, 4, _, rfl, by decide, rfl, rfl, HV.out, hbr, HH0.out, HH1.out⟩, (by decide : (5 - (4 : Int)).toNat < (5 - (3 : Int)).toNat)⟩
                  | (refine ⟨?_, ?_⟩
                     · (repeat apply Exists.intro)
                       refine ⟨?_, rfl⟩
                       exact ⟨_, 4, _, rfl, by decide, rfl, rfl, HV.out, hbr, HH0.out, HH1.out⟩
                     · exact (by decide : (5 - (4 : Int)).toNat < (5 - (3 : Int)).toNat))
            · have HV := Lib.hid (show s = sl (zs.take (3 + 1)) by rw [HS.out, ← HSS.out, if_neg hs0])
              go_wp2_with fail
              first
                | exact ⟨⟨_, 4, _, rfl, by decide, rfl, rfl, HV.out, hbr, HH0.out, HH1.out⟩, (by decide : (5 - (4 : Int)).toNat < (5 - (3 : Int)).toNat)⟩
                | (refine ⟨?_, ?_⟩
                   · (repeat apply Exists.intro)
                     refine ⟨?_, rfl⟩
                     exact ⟨_, 4, _, rfl, by decide, rfl, rfl, HV.out, hbr, HH0.out, HH1.out⟩
                   · exact (by decide : (5 - (4 : Int)).toNat < (5 - (3 : Int)).toNat))
        · obtain rfl : k = 4 := by omega
          have hs4 : s = sl zs := by have := HSS.out; rwa [show zs.take 4 = zs by rw [HZS.out]; rfl] at this
          rw [← hs4] at HP HSV
          clear hs4 HSS hk hlt
          go_wp2_with fail
          go_loopw [8] (fun i wr' => ∃ (wq : World) (k : Nat), wq = wr' ∧ k ≤ 4 ∧ i = .int .i64 (k : Int) ∧ Below w.heap.size w wq
            ∧ wq.heap[w.heap.size]? = some (.cells #[if 0 < k then .int .i64 p0 else .int .i64 a, if 1 < k then .int .i64 p1 else .int .i64 b, if 2 < k then .int .i64 p2 else .int .i64 c, if 3 < k then .int .i64 p3 else .int .i64 d] 22 (0, 0)) ∧ wq.heap[w.heap.size + 1]? = some (.cells #[.int .i64 0, .int .i64 0, .int .i64 0, .int .i64 0] 22 (0, 0))) (fun i _ => (5 - intOf i).toNat)
          case atStart => exact ⟨_, 0, rfl, by omega, rfl, hbr, by simpa using HH0.out, HH1.out⟩
          case round =>
            clear hbr HH0 HH1
            obtain ⟨wr, k, rfl, hk, rfl, hbr, hh0, hh1⟩ := hrel
            have HH0 := Lib.hid hh0
            have HH1 := Lib.hid hh1
            clear hh0 hh1
            have hg0 : ¬ g = 0 := by have := HG4.out.1; omega
            have hgp : (0 : Int) < (g : Int) := by have := HG4.out.1; omega
            have hg9 : (g : Int) ≤ 9000000000000000000 := by have := HG4.out.2; omega
            by_cases hlt : k < 4
            · rcases (show k = 0 ∨ k = 1 ∨ k = 2 ∨ k = 3 by omega) with rfl | rfl | rfl | rfl
              · have gp : wr.heap[w.heap.size]? = some (.cells #[.int .i64 a, .int .i64 b, .int .i64 c, .int .i64 d] 22 (0, 0)) := HH0.out
                have hdv := HP.out.1.1
                have hpb : -9000000000000000000 ≤ p0 ∧ p0 ≤ 9000000000000000000 := by have := HQ.out.1.1; omega
                have hxb : -9000000000000000000 ≤ a ∧ a ≤ 9000000000000000000 := by have := HB.out.1.1; omega
                have hsx : -9000000000000000000 ≤ s * a ∧ s * a ≤ 9000000000000000000 := by
                  rcases HSV.out with e | e <;> rw [e] <;> omega
                have fz : ∀ i, wr.frozen? ⟨w.heap.size, i, none⟩ = false := fun i => Lib.frozen_of_heap gp i
                have c0 := (Lib.cell_of_heap gp 0).trans rfl
                have gs := heap_setCell_same _ _ 0 _ _ (Value.int .i64 p0) gp
                have gs1 := (heap_setCell_other wr ⟨w.heap.size, 0, none⟩ (w.heap.size + 1) (Value.int .i64 p0) (by simp)).trans HH1.out
                have hbs := hbr.setCell (p := ⟨w.heap.size, 0, none⟩) (Nat.le_refl _) (Value.int .i64 p0)
                have GS := Lib.hid gs
                have GS1 := Lib.hid gs1
                clear gp gs gs1 hk hlt
                go_wp2_with fail
                first
                  | exact ⟨⟨_, 1, rfl, by decide, rfl, hbs, GS.out, GS1.out⟩, (by decide : (5 - (1 : Int)).toNat < (5 - (0 : Int)).toNat)⟩
                  | (refine ⟨?_, ?_⟩
                     · (repeat apply Exists.intro)
                       refine ⟨?_, rfl⟩
                       exact ⟨_, 1, rfl, by decide, rfl, hbs, GS.out, GS1.out⟩
                     · exact (by decide : (5 - (1 : Int)).toNat < (5 - (0 : Int)).toNat))
              · have gp : wr.heap[w.heap.size]? = some (.cells #[.int .i64 p0, .int .i64 b, .int .i64 c, .int .i64 d] 22 (0, 0)) := HH0.out
                have hdv := HP.out.1.2
                have hpb : -9000000000000000000 ≤ p1 ∧ p1 ≤ 9000000000000000000 := by have := HQ.out.1.2; omega
                have hxb : -9000000000000000000 ≤ b ∧ b ≤ 9000000000000000000 := by have := HB.out.1.2; omega
                have hsx : -9000000000000000000 ≤ s * b ∧ s * b ≤ 9000000000000000000 := by
                  rcases HSV.out with e | e <;> rw [e] <;> omega
                have fz : ∀ i, wr.frozen? ⟨w.heap.size, i, none⟩ = false := fun i => Lib.frozen_of_heap gp i
                have c0 := (Lib.cell_of_heap gp 1).trans rfl
                have gs := heap_setCell_same _ _ 1 _ _ (Value.int .i64 p1) gp
                have gs1 := (heap_setCell_other wr ⟨w.heap.size, 1, none⟩ (w.heap.size + 1) (Value.int .i64 p1) (by simp)).trans HH1.out
                have hbs := hbr.setCell (p := ⟨w.heap.size, 1, none⟩) (Nat.le_refl _) (Value.int .i64 p1)
                have GS := Lib.hid gs
                have GS1 := Lib.hid gs1
                clear gp gs gs1 hk hlt
                go_wp2_with fail
                first
                  | exact ⟨⟨_, 2, rfl, by decide, rfl, hbs, GS.out, GS1.out⟩, (by decide : (5 - (2 : Int)).toNat < (5 - (1 : Int)).toNat)⟩
                  | (refine ⟨?_, ?_⟩
                     · (repeat apply Exists.intro)
                       refine ⟨?_, rfl⟩
                       exact ⟨_, 2, rfl, by decide, rfl, hbs, GS.out, GS1.out⟩
                     · exact (by decide : (5 - (2 : Int)).toNat < (5 - (1 : Int)).toNat))
              · have gp : wr.heap[w.heap.size]? = some (.cells #[.int .i64 p0, .int .i64 p1, .int .i64 c, .int .i64 d] 22 (0, 0)) := HH0.out
                have hdv := HP.out.2.1
                have hpb : -9000000000000000000 ≤ p2 ∧ p2 ≤ 9000000000000000000 := by have := HQ.out.2.1; omega
                have hxb : -9000000000000000000 ≤ c ∧ c ≤ 9000000000000000000 := by have := HB.out.2.1; omega
                have hsx : -9000000000000000000 ≤ s * c ∧ s * c ≤ 9000000000000000000 := by
                  rcases HSV.out with e | e <;> rw [e] <;> omega
                have fz : ∀ i, wr.frozen? ⟨w.heap.size, i, none⟩ = false := fun i => Lib.frozen_of_heap gp i
                have c0 := (Lib.cell_of_heap gp 2).trans rfl
                have gs := heap_setCell_same _ _ 2 _ _ (Value.int .i64 p2) gp
                have gs1 := (heap_setCell_other wr ⟨w.heap.size, 2, none⟩ (w.heap.size + 1) (Value.int .i64 p2) (by simp)).trans HH1.out
                have hbs := hbr.setCell (p := ⟨w.heap.size, 2, none⟩) (Nat.le_refl _) (Value.int .i64 p2)
                have GS := Lib.hid gs
                have GS1 := Lib.hid gs1
                clear gp gs gs1 hk hlt
                go_wp2_with fail
                first
                  | exact ⟨⟨_, 3, rfl, by decide, rfl, hbs, GS.out, GS1.out⟩, (by decide : (5 - (3 : Int)).toNat < (5 - (2 : Int)).toNat)⟩
                  | (refine ⟨?_, ?_⟩
                     · (repeat apply Exists.intro)
                       refine ⟨?_, rfl⟩
                       exact ⟨_, 3, rfl, by decide, rfl, hbs, GS.out, GS1.out⟩
                     · exact (by decide : (5 - (3 : Int)).toNat < (5 - (2 : Int)).toNat))
              · have gp : wr.heap[w.heap.size]? = some (.cells #[.int .i64 p0, .int .i64 p1, .int .i64 p2, .int .i64 d] 22 (0, 0)) := HH0.out
                have hdv := HP.out.2.2
                have hpb : -9000000000000000000 ≤ p3 ∧ p3 ≤ 9000000000000000000 := by have := HQ.out.2.2; omega
                have hxb : -9000000000000000000 ≤ d ∧ d ≤ 9000000000000000000 := by have := HB.out.2.2; omega
                have hsx : -9000000000000000000 ≤ s * d ∧ s * d ≤ 9000000000000000000 := by
                  rcases HSV.out with e | e <;> rw [e] <;> omega
                have fz : ∀ i, wr.frozen? ⟨w.heap.size, i, none⟩ = false := fun i => Lib.frozen_of_heap gp i
                have c0 := (Lib.cell_of_heap gp 3).trans rfl
                have gs := heap_setCell_same _ _ 3 _ _ (Value.int .i64 p3) gp
                have gs1 := (heap_setCell_other wr ⟨w.heap.size, 3, none⟩ (w.heap.size + 1) (Value.int .i64 p3) (by simp)).trans HH1.out
                have hbs := hbr.setCell (p := ⟨w.heap.size, 3, none⟩) (Nat.le_refl _) (Value.int .i64 p3)
                have GS := Lib.hid gs
                have GS1 := Lib.hid gs1
                clear gp gs gs1 hk hlt
                go_wp2_with fail
                first
                  | exact ⟨⟨_, 4, rfl, by decide, rfl, hbs, GS.out, GS1.out⟩, (by decide : (5 - (4 : Int)).toNat < (5 - (3 : Int)).toNat)⟩
                  | (refine ⟨?_, ?_⟩
                     · (repeat apply Exists.intro)
                       refine ⟨?_, rfl⟩
                       exact ⟨_, 4, rfl, by decide, rfl, hbs, GS.out, GS1.out⟩
                     · exact (by decide : (5 - (4 : Int)).toNat < (5 - (3 : Int)).toNat))
            · obtain rfl : k = 4 := by omega
              have gp : wr.heap[w.heap.size]? = some (.cells #[.int .i64 p0, .int .i64 p1, .int .i64 p2, .int .i64 p3] 22 (0, 0)) := HH0.out
              have x0 := (Lib.cell_of_heap gp 0).trans rfl
              have x1 := (Lib.cell_of_heap gp 1).trans rfl
              have x2 := (Lib.cell_of_heap gp 2).trans rfl
              have x3 := (Lib.cell_of_heap gp 3).trans rfl
              have d0 := (Lib.cell_of_heap HH1.out 0).trans rfl
              have d1 := (Lib.cell_of_heap HH1.out 1).trans rfl
              have d2 := (Lib.cell_of_heap HH1.out 2).trans rfl
              have d3 := (Lib.cell_of_heap HH1.out 3).trans rfl
              have fz : ∀ i, wr.frozen? ⟨w.heap.size + 1, i, none⟩ = false := fun i => Lib.frozen_of_heap HH1.out i
              clear gp hk hlt
              go_wp2_with fail
              have h1 := heap_setCell_same _ _ 0 _ _ (.int .i64 p0) HH1.out
              have h2 := heap_setCell_same _ _ 1 _ _ (.int .i64 p1) h1
              have h3 := heap_setCell_same _ _ 2 _ _ (.int .i64 p2) h2
              have h4 := heap_setCell_same _ _ 3 _ _ (.int .i64 p3) h3
              exact bodyPost_ret (v := qv p0 p1 p2 p3) (by simp [results, Tryz.results34, go_sem, Lib.cell_of_heap h4]) rfl ⟨rfl, (((hbr.setCell (by simp) _).setCell (by simp) _).setCell (by simp) _).setCell (by simp) _⟩
set_option maxHeartbeats 4000000 in
set_option maxRecDepth 100000 in
theorem LProd_any (a b c d a' b' c' d' : Int) (w : World) (ha : a.natAbs ≤ 1000000) (hb : b.natAbs ≤ 1000000) (hc : c.natAbs ≤ 1000000) (hd : d.natAbs ≤ 1000000) (ha' : a'.natAbs ≤ 1000000) (hb' : b'.natAbs ≤ 1000000) (hc' : c'.natAbs ≤ 1000000) (hd' : d'.natAbs ≤ 1000000) :
    Calls Tryz.prog 35 #[qv a b c d, qv a' b' c' d'] w (Ret (qv (a * a' - b * b' - c * c' - d * d') (a * b' + b * a' + c * d' - d * c') (a * c' - b * d' + c * a' + d * b') (a * d' + b * c' - c * b' + d * a')) w) := by
  have maa := mul6 ha ha'
  have mab := mul6 ha hb'
  have mac := mul6 ha hc'
  have mad := mul6 ha hd'
  have mba := mul6 hb ha'
  have mbb := mul6 hb hb'
  have mbc := mul6 hb hc'
  have mbd := mul6 hb hd'
  have mca := mul6 hc ha'
  have mcb := mul6 hc hb'
  have mcc := mul6 hc hc'
  have mcd := mul6 hc hd'
  have mda := mul6 hd ha'
  have mdb := mul6 hd hb'
  have mdc := mul6 hd hc'
  have mdd := mul6 hd hd'
  clear ha hb hc hd ha' hb' hc' hd'
  go_enter Tryz.func35, Tryz.ntmps35
  go_wp2_with fail
  have hw1 := (((Below.refl w.heap.size w).alloc (Nat.le_refl _) (.cells #[.int .i64 a, .int .i64 b, .int .i64 c, .int .i64 d] 22)).alloc (by simp) (.cells #[.int .i64 a', .int .i64 b', .int .i64 c', .int .i64 d'] 22)).alloc (by simp; omega) (.cells #[.int .i64 (a * a' - b * b' - c * c' - d * d'), .int .i64 (a * b' + b * a' + c * d' - d * c'), .int .i64 (a * c' - b * d' + c * a' + d * b'), .int .i64 (a * d' + b * c' - c * b' + d * a')] 22)
  have hk1 : (((w.alloc (.cells #[.int .i64 a, .int .i64 b, .int .i64 c, .int .i64 d] 22)).alloc (.cells #[.int .i64 a', .int .i64 b', .int .i64 c', .int .i64 d'] 22)).alloc (.cells #[.int .i64 (a * a' - b * b' - c * c' - d * d'), .int .i64 (a * b' + b * a' + c * d' - d * c'), .int .i64 (a * c' - b * d' + c * a' + d * b'), .int .i64 (a * d' + b * c' - c * b' + d * a')] 22)).heap[w.heap.size + 1 + 1]? = some (.cells #[.int .i64 (a * a' - b * b' - c * c' - d * d'), .int .i64 (a * b' + b * a' + c * d' - d * c'), .int .i64 (a * c' - b * d' + c * a' + d * b'), .int .i64 (a * d' + b * c' - c * b' + d * a')] 22 (0, 0)) := by
    have := World.alloc_heap_new ((w.alloc (.cells #[.int .i64 a, .int .i64 b, .int .i64 c, .int .i64 d] 22)).alloc (.cells #[.int .i64 a', .int .i64 b', .int .i64 c', .int .i64 d'] 22)) (.cells #[.int .i64 (a * a' - b * b' - c * c' - d * d'), .int .i64 (a * b' + b * a' + c * d' - d * c'), .int .i64 (a * c' - b * d' + c * a' + d * b'), .int .i64 (a * d' + b * c' - c * b' + d * a')] 22)
    simpa using this
  exact bodyPost_ret (v := qv (a * a' - b * b' - c * c' - d * d') (a * b' + b * a' + c * d' - d * c') (a * c' - b * d' + c * a' + d * b') (a * d' + b * c' - c * b' + d * a')) (by simp [results, Tryz.results35, go_sem, Lib.cell_of_heap hk1]) rfl ⟨rfl, hw1⟩
end Go.Proofs.Kl
/- RotationPrimitive: the body returns true. -/
namespace Go.Proofs.Kl
open Go.RowKit Go.Shelf
/-- four ints in a block. -/
abbrev KQ (B : Nat) (a b c d : Int) (w' : World) : Prop := w'.cell? ⟨B, 0, none⟩ = some (.int .i64 a) ∧ w'.cell? ⟨B, 1, none⟩ = some (.int .i64 b) ∧ w'.cell? ⟨B, 2, none⟩ = some (.int .i64 c) ∧ w'.cell? ⟨B, 3, none⟩ = some (.int .i64 d)
theorem KQ_below {B : Nat} {a b c d : Int} {W w' : World} (hb : Below W.heap.size W w') (h : KQ B a b c d W) : KQ B a b c d w' := ⟨cell_below hb h.1, cell_below hb h.2.1, cell_below hb h.2.2.1, cell_below hb h.2.2.2⟩
theorem KBl.quad {w : World} {L : List (Nat × Obj)} (h : KBl w L) {b : Nat} {x y z u : Int} {t : TypeId} (hm : (b, Obj.cells #[.int .i64 x, .int .i64 y, .int .i64 z, .int .i64 u] t (0, 0)) ∈ L) : KQ b x y z u w :=
  ⟨h.cell hm 0, h.cell hm 1, h.cell hm 2, h.cell hm 3⟩
abbrev K4Q (B C D E : Nat) (a b c d a' b' c' d' p0 p1 p2 p3 i0 i1 i2 i3 : Int) (w' : World) : Prop := w'.cell? ⟨B, 0, none⟩ = some (.int .i64 a) ∧ w'.cell? ⟨B, 1, none⟩ = some (.int .i64 b) ∧ w'.cell? ⟨B, 2, none⟩ = some (.int .i64 c) ∧ w'.cell? ⟨B, 3, none⟩ = some (.int .i64 d) ∧ w'.cell? ⟨C, 0, none⟩ = some (.int .i64 a') ∧ w'.cell? ⟨C, 1, none⟩ = some (.int .i64 b') ∧ w'.cell? ⟨C, 2, none⟩ = some (.int .i64 c') ∧ w'.cell? ⟨C, 3, none⟩ = some (.int .i64 d') ∧ w'.cell? ⟨D, 0, none⟩ = some (.int .i64 p0) ∧ w'.cell? ⟨D, 1, none⟩ = some (.int .i64 p1) ∧ w'.cell? ⟨D, 2, none⟩ = some (.int .i64 p2) ∧ w'.cell? ⟨D, 3, none⟩ = some (.int .i64 p3) ∧ w'.cell? ⟨E, 0, none⟩ = some (.int .i64 i0) ∧ w'.cell? ⟨E, 1, none⟩ = some (.int .i64 i1) ∧ w'.cell? ⟨E, 2, none⟩ = some (.int .i64 i2) ∧ w'.cell? ⟨E, 3, none⟩ = some (.int .i64 i3)
theorem K4Q_below {B C D E : Nat} {a b c d a' b' c' d' p0 p1 p2 p3 i0 i1 i2 i3 : Int} {W w' : World} (hb : Below W.heap.size W w') (h : K4Q B C D E a b c d a' b' c' d' p0 p1 p2 p3 i0 i1 i2 i3 W) : K4Q B C D E a b c d a' b' c' d' p0 p1 p2 p3 i0 i1 i2 i3 w' := by
  obtain ⟨h0, h1, h2, h3, h4, h5, h6, h7, h8, h9, h10, h11, h12, h13, h14, h15⟩ := h
  exact ⟨cell_below hb h0, cell_below hb h1, cell_below hb h2, cell_below hb h3, cell_below hb h4, cell_below hb h5, cell_below hb h6, cell_below hb h7, cell_below hb h8, cell_below hb h9, cell_below hb h10, cell_below hb h11, cell_below hb h12, cell_below hb h13, cell_below hb h14, cell_below hb h15⟩
theorem K4Q_of {B C D E : Nat} {a b c d a' b' c' d' p0 p1 p2 p3 i0 i1 i2 i3 : Int} {w' : World} (h1 : KQ B a b c d w') (h2 : KQ C a' b' c' d' w') (h3 : KQ D p0 p1 p2 p3 w') (h4 : KQ E i0 i1 i2 i3 w') : K4Q B C D E a b c d a' b' c' d' p0 p1 p2 p3 i0 i1 i2 i3 w' :=
  ⟨h1.1, h1.2.1, h1.2.2.1, h1.2.2.2, h2.1, h2.2.1, h2.2.2.1, h2.2.2.2, h3.1, h3.2.1, h3.2.2.1, h3.2.2.2, h4.1, h4.2.1, h4.2.2.1, h4.2.2.2⟩
theorem quad_of (V : Value) (a b c d : Int) (h : V = qv a b c d) : ∃ x y z u : Int, V = qv x y z u := ⟨a, b, c, d, h⟩
set_option maxHeartbeats 4000000 in
set_option maxRecDepth 100000 in
theorem LawPrimitive_any (a b c d a' b' c' d' : Int) (w : World) (hE : Env w) : Calls Tryz.prog 7 #[qv a b c d, qv a' b' c' d'] w (Ret (.bool true) w) := by
  obtain ⟨R, hR⟩ : ∃ R, R = qchk a b c d := ⟨_, rfl⟩
  obtain ⟨R', hR'⟩ : ∃ R, R = qchk a' b' c' d' := ⟨_, rfl⟩
  have HL := Lib.hid (fun w' => Lcheck_any a b c d w')
  have HL' := Lib.hid (fun w' => Lcheck_any a' b' c' d' w')
  rw [← hR] at HL
  rw [← hR'] at HL'
  have HRR := Lib.hid (And.intro hR hR')
  clear hR hR'
  have HE := Lib.hid hE
  clear hE
  have hb0 := ((Below.refl w.heap.size w).alloc (Nat.le_refl _) (.cells #[.int .i64 a, .int .i64 b, .int .i64 c, .int .i64 d] 22)).alloc (by simp) (.cells #[.int .i64 a', .int .i64 b', .int .i64 c', .int .i64 d'] 22)
  have K0 : Hid (KBl ((w.alloc (.cells #[.int .i64 a, .int .i64 b, .int .i64 c, .int .i64 d] 22)).alloc (.cells #[.int .i64 a', .int .i64 b', .int .i64 c', .int .i64 d'] 22)) [(w.heap.size, .cells #[.int .i64 a, .int .i64 b, .int .i64 c, .int .i64 d] 22), (w.heap.size + 1, .cells #[.int .i64 a', .int .i64 b', .int .i64 c', .int .i64 d'] 22)]) := Lib.hid (by
    have := ((KBl.nil w).alloc (.cells #[.int .i64 a, .int .i64 b, .int .i64 c, .int .i64 d] 22)).alloc (.cells #[.int .i64 a', .int .i64 b', .int .i64 c', .int .i64 d'] 22)
    intro p hp
    refine this p ?_
    simpa [or_comm] using hp)
  go_enter Tryz.func7, Tryz.ntmps7
  go_wp2_with fail
  refine (known_any _ (HE.out.below hb0)).mono ?_
  rintro e w1 ⟨rfl, hb1⟩
  have hw1 := below_trans hb0 hb1
  have K1 := Lib.hid (K0.out.below hb1)
  obtain ⟨x0, x1, x2, x3⟩ := K1.out.quad (b := w.heap.size) (x := a) (y := b) (z := c) (u := d) (t := 22) (by simp)
  go_wp2_with fail
  refine (HL.out _).mono ?_
  rintro e w2 ⟨rfl, hb2⟩
  have hw2 := below_trans hw1 hb2
  have K2 := Lib.hid (K1.out.below hb2)
  clear x0 x1 x2 x3
  by_cases h1 : R = 0
  case neg =>
    go_wp2_with fail
    refine (known_any _ (HE.out.below hw2)).mono ?_
    rintro e w3 ⟨rfl, hb3⟩
    have hw3 := below_trans hw2 hb3
    go_wp2
    go_ret
    exact ⟨rfl, hw3⟩
  subst h1
  obtain ⟨y0, y1, y2, y3⟩ := K2.out.quad (b := w.heap.size + 1) (x := a') (y := b') (z := c') (u := d') (t := 22) (by simp)
  go_wp2_with fail
  refine (HL'.out _).mono ?_
  rintro e w3 ⟨rfl, hb3⟩
  have hw3 := below_trans hw2 hb3
  have K3 := Lib.hid (K2.out.below hb3)
  clear y0 y1 y2 y3
  by_cases h2 : R' = 0
  case neg =>
    go_wp2_with fail
    refine (known_any _ (HE.out.below hw3)).mono ?_
    rintro e w4 ⟨rfl, hb4⟩
    have hw4 := below_trans hw3 hb4
    go_wp2
    go_ret
    exact ⟨rfl, hw4⟩
  subst h2
  have hq := HRR.out.1.symm
  have hq' := HRR.out.2.symm
  clear HRR
  obtain ⟨p0, p1, p2, p3, hp⟩ := quad_of _ _ _ _ _ (rfl : pq a b c d = pq a b c d)
  obtain ⟨i0, i1, i2, i3, hi⟩ := quad_of _ _ _ _ _ (rfl : pq a (-b) (-c) (-d) = pq a (-b) (-c) (-d))
  obtain ⟨r0, r1, r2, r3, hr⟩ := quad_of _ _ _ _ _ (rfl : pq a' b' c' d' = pq a' b' c' d')
  obtain ⟨k0, k1, k2, k3, k4⟩ := qchk_bd hq
  obtain ⟨k0', k1', k2', k3', k4'⟩ := qchk_bd hq'
  have HP := Lib.hid (fun w' => Primitive_ok a b c d w' hq)
  have HI := Lib.hid (fun w' => Inverse_ok a b c d w' hq)
  have HS := Lib.hid (fun w' => Same_ok a b c d a' b' c' d' w' hq hq' p0 p1 p2 p3 r0 r1 r2 r3 hp hr)
  have HLP := Lib.hid (fun w' => LPrim_any a b c d w' k0 (by omega) (by omega) (by omega) (by omega) p0 p1 p2 p3 hp)
  have HLI := Lib.hid (fun w' => LPrim_any a (-b) (-c) (-d) w' (by omega) (by omega) (by omega) (by omega) (by omega) i0 i1 i2 i3 hi)
  have HLR := Lib.hid (fun w' => LPrim_any a' b' c' d' w' k0' (by omega) (by omega) (by omega) (by omega) r0 r1 r2 r3 hr)
  rw [hp] at HP
  rw [hi] at HI
  have hnb : IntKind.i64.wrap (-b) = -b := by rw [IntKind.wrap_i64]; omega
  have hnc : IntKind.i64.wrap (-c) = -c := by rw [IntKind.wrap_i64]; omega
  have hnd : IntKind.i64.wrap (-d) = -d := by rw [IntKind.wrap_i64]; omega
  have HLW : Hid (∀ w', Calls Tryz.prog 34 #[.agg #[.int .i64 a, .int .i64 (IntKind.i64.wrap (-b)), .int .i64 (IntKind.i64.wrap (-c)), .int .i64 (IntKind.i64.wrap (-d))]] w' (Ret (qv i0 i1 i2 i3) w')) := Lib.hid (by rw [hnb, hnc, hnd]; exact HLI.out)
  clear HLI hnb hnc hnd
  clear hp hi hr k0 k1 k2 k3 k4 k0' k1' k2' k3' k4' hq hq' K0 K1 K2 hb0 hb1 hb2 hb3 hw1 hw2
  obtain ⟨B, hB⟩ : ∃ B, B = (p0 == r0 && (p1 == r1 && (p2 == r2 && p3 == r3))) := ⟨_, rfl⟩
  rw [← hB] at HS
  obtain ⟨x0, x1, x2, x3⟩ := K3.out.quad (b := w.heap.size) (x := a) (y := b) (z := c) (u := d) (t := 22) (by simp)
  go_wp2_with fail
  refine (HP.out _).mono ?_
  rintro e w4 ⟨rfl, hb4⟩
  have hw4 := below_trans hw3 hb4
  have K4 := Lib.hid ((K3.out.below hb4).alloc (.cells #[.int .i64 p0, .int .i64 p1, .int .i64 p2, .int .i64 p3] 22))
  have hw5 := hw4.alloc hw4.size (.cells #[.int .i64 p0, .int .i64 p1, .int .i64 p2, .int .i64 p3] 22)
  clear x0 x1 x2 x3
  obtain ⟨x0, x1, x2, x3⟩ := K4.out.quad (b := w.heap.size) (x := a) (y := b) (z := c) (u := d) (t := 22) (by simp)
  go_wp2_with fail
  refine (HI.out _).mono ?_
  rintro e w6 ⟨rfl, hb6⟩
  have hw6 := below_trans hw5 hb6
  have K6 := Lib.hid ((K4.out.below hb6).alloc (.cells #[.int .i64 i0, .int .i64 i1, .int .i64 i2, .int .i64 i3] 22))
  have hw7 := hw6.alloc hw6.size (.cells #[.int .i64 i0, .int .i64 i1, .int .i64 i2, .int .i64 i3] 22)
  clear x0 x1 x2 x3
  obtain ⟨x0, x1, x2, x3⟩ := K6.out.quad (b := w.heap.size) (x := a) (y := b) (z := c) (u := d) (t := 22) (by simp)
  obtain ⟨y0, y1, y2, y3⟩ := K6.out.quad (b := w.heap.size + 1) (x := a') (y := b') (z := c') (u := d') (t := 22) (by simp)
  go_wp2_with fail
  refine (HS.out _).mono ?_
  rintro e w8 ⟨rfl, hb8⟩
  have hw8 := below_trans hw7 hb8
  have K8' := Lib.hid (K6.out.below hb8)
  clear x0 x1 x2 x3 y0 y1 y2 y3
  obtain ⟨P, hP⟩ : ∃ P, P = w4.heap.size := ⟨_, rfl⟩
  obtain ⟨Q, hQ⟩ : ∃ Q, Q = w6.heap.size := ⟨_, rfl⟩
  have C1 : Hid (K4Q w.heap.size (w.heap.size + 1) P Q a b c d a' b' c' d' p0 p1 p2 p3 i0 i1 i2 i3 w8) := Lib.hid (K4Q_of (K8'.out.quad (t := 22) (by simp)) (K8'.out.quad (t := 22) (by simp)) (K8'.out.quad (t := 22) (by rw [hP]; simp)) (K8'.out.quad (t := 22) (by rw [hQ]; simp)))
  rw [← hP, ← hQ]
  clear K3 K4 K6 K8' hw3 hw4 hw5 hw6 hw7 hb4 hb6 hb8 HP HI HS HL HL' HE hP hQ
  obtain ⟨xa0, xa1, xa2, xa3, xb0, xb1, xb2, xb3, xp0, xp1, xp2, xp3, xi0, xi1, xi2, xi3⟩ := id C1.out
  have hbeq : ∀ x : Int, (x == x) = true := fun x => by simp
  have hBB : (B == (p0 == r0 && (p1 == r1 && (p2 == r2 && p3 == r3)))) = true := by rw [hB]; simp
  clear hB
  go_upto_region 6 with fail
  have C1d := Lib.hid (show K4Q w.heap.size (w.heap.size + 1) P Q a b c d a' b' c' d' p0 p1 p2 p3 i0 i1 i2 i3 w8.drew from C1.out)
  go_region_held3 (fun w' => w'.cell? ⟨w.heap.size, 0, none⟩ = some (.int .i64 a) ∧ w'.cell? ⟨w.heap.size, 1, none⟩ = some (.int .i64 b) ∧ w'.cell? ⟨w.heap.size, 2, none⟩ = some (.int .i64 c) ∧ w'.cell? ⟨w.heap.size, 3, none⟩ = some (.int .i64 d) ∧ w'.cell? ⟨w.heap.size + 1, 0, none⟩ = some (.int .i64 a') ∧ w'.cell? ⟨w.heap.size + 1, 1, none⟩ = some (.int .i64 b') ∧ w'.cell? ⟨w.heap.size + 1, 2, none⟩ = some (.int .i64 c') ∧ w'.cell? ⟨w.heap.size + 1, 3, none⟩ = some (.int .i64 d') ∧ w'.cell? ⟨P, 0, none⟩ = some (.int .i64 p0) ∧ w'.cell? ⟨P, 1, none⟩ = some (.int .i64 p1) ∧ w'.cell? ⟨P, 2, none⟩ = some (.int .i64 p2) ∧ w'.cell? ⟨P, 3, none⟩ = some (.int .i64 p3) ∧ w'.cell? ⟨Q, 0, none⟩ = some (.int .i64 i0) ∧ w'.cell? ⟨Q, 1, none⟩ = some (.int .i64 i1) ∧ w'.cell? ⟨Q, 2, none⟩ = some (.int .i64 i2) ∧ w'.cell? ⟨Q, 3, none⟩ = some (.int .i64 i3))
    (first
      | with_reducible exact C1.out
      | with_reducible exact C1d.out
      | with_reducible exact K4Q_below hb11 C1d.out
      | with_reducible exact K4Q_below hb12 (K4Q_below hb11 C1d.out)
      | with_reducible exact K4Q_below hb13 (K4Q_below hb12 (K4Q_below hb11 C1d.out))
      | with_reducible exact K4Q_below hb14 (K4Q_below hb13 (K4Q_below hb12 (K4Q_below hb11 C1d.out))))
    (first
      | (go_at_call 34; refine (HLR.out w13).mono ?_; rintro e w14 ⟨rfl, hb14⟩)
      | (go_at_call 34; refine (HLP.out w12).mono ?_; rintro e w13 ⟨rfl, hb13⟩)
      | (go_at_call 34; refine (HLW.out w11).mono ?_; rintro e w12 ⟨rfl, hb12⟩)
      | (go_at_call 34; refine (HLP.out _).mono ?_; rintro e w11 ⟨rfl, hb11⟩))
  go_wp2
  go_ret
  exact ⟨rfl, below_trans (below_trans (below_trans (below_trans hw8.drew hb11) hb12) hb13) hb14⟩
end Go.Proofs.Kl
