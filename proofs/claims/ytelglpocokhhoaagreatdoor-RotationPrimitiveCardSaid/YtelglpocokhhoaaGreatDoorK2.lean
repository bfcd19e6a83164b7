/- Part 2 of the proof: the contracts that the statement's proof uses. -/
import Derived.Test.YtelglpocokhhoaaGreatDoorK1
import Derived.Lib.LaidTab
import Derived.Sort.Grow
import Derived.Shelf.Strings.Builder1
import Derived.Shelf.Small.Strs
import Derived.Shelf.Small.Wraps
import Derived.Shelf.Strings.BuilderF
import Derived.Shelf.Strings.BuilderK
import Derived.Shelf.Strconv.Atoi
import Derived.Shelf.Strconv.Itoa0
import Derived.Shelf.Strconv.Itoa1
import Derived.Shelf.LaysM
import Derived.Shelf.Strconv.Itoa2
import Derived.Shelf.Strconv.Itoa3
import Derived.Shelf.Strconv.AtoiErrFast
import Derived.Shelf.Strconv.ParseIntEmpty
import Derived.Shelf.Strconv.AtoiFail
import Derived.Shelf.Strconv.Clone
import Derived.Shelf.Strconv.SyntaxError
import Derived.Shelf.LaysC
import Derived.Shelf.Strconv.ToError
import Derived.Shelf.Strconv.Lower
import Derived.Shelf.Strconv.ParseUint10
import Derived.Shelf.Strconv.ParseUint10Empty
import Derived.Shelf.Strconv.ParseUint10Any
import Derived.Shelf.Strconv.ParseInt10
import Derived.Shelf.Strconv.AtoiLong
import Derived.Shelf.Strconv.AtoiInnerAll
import Derived.Shelf.Strconv.RangeError
import Derived.Shelf.Strconv.ToErrorRange
import Derived.Shelf.Strconv.AtoiAll
import Derived.Shelf.Strconv.ErrVarAll
import Derived.Shelf.Strconv.ParseUintEmpty
import Derived.Shelf.Strconv.ParseUint10b64
import Derived.Shelf.Strconv.ParseUint10b32
import Derived.Shelf.Strconv.ParseUint10b16
import Derived.Shelf.Strconv.ParseUint10b8
import Derived.Shelf.Strconv.ParseUint10At
import Derived.Shelf.Strconv.ParseInt10At64
import Derived.Shelf.Strconv.ParseInt10At32
import Derived.Shelf.Strconv.ParseInt10At16
import Derived.Shelf.Strconv.ParseInt10At8
import Derived.Shelf.Strconv.ParseInt10All
import Derived.Shelf.Strconv.ParseIntPublic10
import Derived.Shelf.Strconv.ErrVarParseInt
import Derived.Ground.MpProg
import Derived.Shelf.Pu.ParseUintPublic10
import Derived.Shelf.Pu.ErrVarParseUint
import Derived.Shelf.Strings.Search1
import Derived.Shelf.Strings.Search2
import Derived.Shelf.Strings.Cut
import Derived.Shelf.Strings.Shaped
import Derived.Shelf.Strings.Prefix
import Derived.Shelf.Strings.BuilderCap
import Derived.Test.YtelglpocokhhoaaGreatDoorProg
import Derived.Deep.RegionLaw
import Derived.Deep.RegionHeld3
import Derived.Lib.ItoaMem
import Derived.BigCall
import Derived.BigGuard
/- What all contracts ask of the world, and what a call leaves. -/
namespace Go.Proofs.Kl
open Go.RowKit
/-- the text of bytes. -/
abbrev tx (l : List UInt8) : ByteArray := ⟨l.toArray⟩
/-- a call hands back a value, and leaves what was there. -/
def Ret (v : Value) (w : World) (e : Ending) (w' : World) : Prop := e = .returned v ∧ Below w.heap.size w w'
/-- the library's variables that are read. -/
structure Env (w : World) : Prop where
  tab : Lib.TabIs Tryz.prog w "internal/strconv.uint64pow10" .u64 Lib.pow10Tab
  max : ∃ m, w.cell? ⟨0, 0, none⟩ = some (.int .i64 m)
theorem tab_below {w w' : World} {n : String} {g : Nat} {k : IntKind} {zs : List Int} (hg : Tryz.prog.globalNamed n = some g) (h : Lib.TabIs Tryz.prog w n k zs) (hb : Below w.heap.size w w') : Lib.TabIs Tryz.prog w' n k zs := by
  unfold Lib.TabIs World.var? at h ⊢
  rw [hg] at h ⊢
  simp only [Option.bind_some] at h ⊢
  have hlt : g < w.heap.size := by
    rcases Nat.lt_or_ge g w.heap.size with h' | h'
    · exact h'
    · rw [Array.getElem?_eq_none h'] at h; cases h
  rw [hb.block g hlt]
  exact h
theorem Env.below {w w' : World} (h : Env w) (hb : Below w.heap.size w w') : Env w' :=
  ⟨tab_below (g := 3) (by kernel_rfl) h.tab hb, by obtain ⟨m, hm⟩ := h.max; exact ⟨m, cell_below hb hm⟩⟩
theorem below_grow (w : World) (k : Nat) (os : Array Obj) : Below w.heap.size w (Sort.grow (w.drewN k) os) := by
  refine ⟨rfl, rfl, rfl, by simp [Sort.grow, World.drewN], fun i hi => ?_⟩
  simp only [Sort.grow, World.drewN]
  rw [Array.getElem?_append_left hi]
theorem Ret.trans {v : Value} {w w1 : World} {e : Ending} {w' : World} (hb : Below w.heap.size w w1) (h : Ret v w1 e w') : Ret v w e w' := ⟨h.1, below_trans hb h.2⟩
end Go.Proofs.Kl
/- The library contracts at this program, laid by the kit's tool; only those that are used. -/
namespace Go.Proofs
open Go.Shelf
def Tryz.lays169_ren : Go.Shelf.Ren := ⟨fun | 169 => 175 | n => n, fun | 70 => 199 | 9 => 9 | 0 => 0 | 72 => 202 | 37 => 200 | 127 => 213 | 3 => 3 | 5 => 5 | n => n, fun | n => n⟩
theorem Tryz.lays169 : Go.Proofs.Lays.n169 Tryz.prog Tryz.lays169_ren := {
  mixed := by kernel_rfl
  f169 := Tryz.func175.trans (congrArg some (by kernel_rfl))
  t0 := Tryz.underlying0
  a0 := Tryz.isAgg0
  z0 := Tryz.sizeOf0
  v0 := Tryz.zeroValue0
  t3 := Tryz.underlying3
  a3 := Tryz.isAgg3
  z3 := Tryz.sizeOf3
  v3 := Tryz.zeroValue3
  t9 := Tryz.underlying9
  a9 := Tryz.isAgg9
  z9 := Tryz.sizeOf9
  v9 := Tryz.zeroValue9
  t37 := Tryz.underlying200
  a37 := Tryz.isAgg200
  z37 := Tryz.sizeOf200
  v37 := Tryz.zeroValue200
  t70 := Tryz.underlying199
  a70 := Tryz.isAgg199
  z70 := Tryz.sizeOf199
  v70 := Tryz.zeroValue199
  t72 := Tryz.underlying202
  a72 := Tryz.isAgg202
  z72 := Tryz.sizeOf202
  v72 := Tryz.zeroValue202
  t127 := Tryz.underlying213
  a127 := Tryz.isAgg213
  z127 := Tryz.sizeOf213
  v127 := Tryz.zeroValue213 }
theorem Tryz.Builder_Extra_169 : Builder.Extra Tryz.prog Tryz.lays169_ren := {
  sizeBuilder := by kernel_rfl
  liesBuilder := by kernel_rfl
  t5 := Tryz.underlying5
  a5 := Tryz.isAgg5
  z5 := Tryz.sizeOf5
  v5 := Tryz.zeroValue5
  infoByte := by kernel_rfl
  cellsByte := by kernel_rfl
  sizeByte := by kernel_rfl
  neB5 := by decide }
def Tryz.lays106_ren : Go.Shelf.Ren := ⟨fun | 106 => 156 | 213 => 184 | 265 => 202 | n => n, fun | 9 => 9 | 3 => 3 | n => n, fun | n => n⟩
theorem Tryz.lays106 : Go.Proofs.Lays.n106 Tryz.prog Tryz.lays106_ren := {
  mixed := by kernel_rfl
  f106 := Tryz.func156.trans (congrArg some (by kernel_rfl))
  f213 := Tryz.func184.trans (congrArg some (by kernel_rfl))
  f265 := Tryz.func202.trans (congrArg some (by kernel_rfl))
  t3 := Tryz.underlying3
  a3 := Tryz.isAgg3
  z3 := Tryz.sizeOf3
  v3 := Tryz.zeroValue3
  t9 := Tryz.underlying9
  a9 := Tryz.isAgg9
  z9 := Tryz.sizeOf9
  v9 := Tryz.zeroValue9 }
open Go.RowKit in
theorem Tryz.strings_Compare (a b : ByteArray) (w : World) :
    Calls Tryz.prog 156 #[.string a, .string b] w fun e w' => e = .returned (.int .i64 (Lib.compareBytes a.data.toList b.data.toList)) ∧ w' = w := Any.strings_Compare Tryz.lays106 a b w
def Tryz.lays103_ren : Go.Shelf.Ren := ⟨fun | 103 => 154 | 210 => 182 | 206 => 178 | n => n, fun | 9 => 9 | 4 => 4 | 24 => 180 | 3 => 3 | n => n, fun | n => n⟩
theorem Tryz.lays103 : Go.Proofs.Lays.n103 Tryz.prog Tryz.lays103_ren := {
  mixed := by kernel_rfl
  f103 := Tryz.func154.trans (congrArg some (by kernel_rfl))
  f206 := Tryz.func178.trans (congrArg some (by kernel_rfl))
  f210 := Tryz.func182.trans (congrArg some (by kernel_rfl))
  t3 := Tryz.underlying3
  a3 := Tryz.isAgg3
  z3 := Tryz.sizeOf3
  v3 := Tryz.zeroValue3
  t4 := Tryz.underlying4
  a4 := Tryz.isAgg4
  z4 := Tryz.sizeOf4
  v4 := Tryz.zeroValue4
  t9 := Tryz.underlying9
  a9 := Tryz.isAgg9
  z9 := Tryz.sizeOf9
  v9 := Tryz.zeroValue9
  t24 := Tryz.underlying180
  a24 := Tryz.isAgg180
  z24 := Tryz.sizeOf180
  v24 := Tryz.zeroValue180 }
open Go.RowKit in
theorem Tryz.strings_CutPrefix (s p : ByteArray) (w : World) :
    Calls Tryz.prog 154 #[.string s, .string p] w fun e w' => e = .returned (.tuple #[.string ⟨(Lib.trimPrefix s.data.toList p.data.toList).toArray⟩, .bool (Lib.hasPrefix s.data.toList p.data.toList)]) ∧ w' = w := Any.strings_CutPrefix Tryz.lays103 s p w
open Go.RowKit in
theorem Tryz.Builder_String_any_k (B b : Nat) (l : List UInt8) (w : World) (h : Lib.IsBuilderF 202 5 B b (Lib.byteCells l) w) (hBw : B ≤ w.heap.size) :
    Calls Tryz.prog 175 #[.pointer (some ⟨b, 0, none⟩)] w fun e w' => e = .returned (.string ⟨l.toArray⟩) ∧ (Lib.IsBuilderF 202 5 B b (Lib.byteCells l) w' ∧ Below B w w' ∧ Lib.OthersKept 5 (some b) w w') := Any.Builder_String_any_k Tryz.lays169 Tryz.Builder_Extra_169 B b l w h hBw
def Tryz.lays283_ren : Go.Shelf.Ren := ⟨fun | 283 => 203 | n => n, fun | 3 => 3 | 9 => 9 | 4 => 4 | n => n, fun | n => n⟩
theorem Tryz.lays283 : Go.Proofs.Lays.n283 Tryz.prog Tryz.lays283_ren := {
  mixed := by kernel_rfl
  f283 := Tryz.func203.trans (congrArg some (by kernel_rfl))
  t3 := Tryz.underlying3
  a3 := Tryz.isAgg3
  z3 := Tryz.sizeOf3
  v3 := Tryz.zeroValue3
  t4 := Tryz.underlying4
  a4 := Tryz.isAgg4
  z4 := Tryz.sizeOf4
  v4 := Tryz.zeroValue4
  t9 := Tryz.underlying9
  a9 := Tryz.isAgg9
  z9 := Tryz.sizeOf9
  v9 := Tryz.zeroValue9 }
open Go.Lib in
theorem Tryz.internal_strconv_small (i : Nat) (h : i < 100) (w : World) :
    Calls Tryz.prog 203 #[.int .i64 i] w fun e w' => e = .returned (.string ⟨(Lib.decDigits i).toArray⟩) ∧ w' = w := Any.internal_strconv_small Tryz.lays283 i h w
def Tryz.laysM284_ren : Go.Shelf.Ren := ⟨fun | 284 => 204 | 129 => 214 | 317 => 213 | 318 => 215 | n => n, fun | 53 => 165 | 3 => 3 | 212 => 237 | 0 => 0 | 4 => 4 | 46 => 215 | 5 => 5 | 9 => 9 | n => n, fun | 17 => 3 | n => n⟩
theorem Tryz.laysM284 : Go.Proofs.LaysM.n284 Tryz.prog Tryz.laysM284_ren := {
  mixed := by kernel_rfl
  f129 := Tryz.func214.trans (congrArg some (by kernel_rfl))
  f284 := Tryz.func204.trans (congrArg some (by kernel_rfl))
  f317 := Tryz.func213.trans (congrArg some (by kernel_rfl))
  f318 := Tryz.func215.trans (congrArg some (by kernel_rfl))
  t0 := Tryz.underlying0
  a0 := Tryz.isAgg0
  z0 := Tryz.sizeOf0
  v0 := Tryz.zeroValue0
  t3 := Tryz.underlying3
  a3 := Tryz.isAgg3
  z3 := Tryz.sizeOf3
  v3 := Tryz.zeroValue3
  t4 := Tryz.underlying4
  a4 := Tryz.isAgg4
  z4 := Tryz.sizeOf4
  v4 := Tryz.zeroValue4
  t5 := Tryz.underlying5
  a5 := Tryz.isAgg5
  z5 := Tryz.sizeOf5
  v5 := Tryz.zeroValue5
  t9 := Tryz.underlying9
  a9 := Tryz.isAgg9
  z9 := Tryz.sizeOf9
  v9 := Tryz.zeroValue9
  t46 := Tryz.underlying215
  a46 := Tryz.isAgg215
  z46 := Tryz.sizeOf215
  v46 := Tryz.zeroValue215
  t53 := Tryz.underlying165
  a53 := Tryz.isAgg165
  z53 := Tryz.sizeOf165
  v53 := Tryz.zeroValue165
  t212 := Tryz.underlying237
  a212 := Tryz.isAgg237
  z212 := Tryz.sizeOf237
  v212 := Tryz.zeroValue237
  g17 := by kernel_rfl
  i0 := by kernel_rfl
  i3 := by kernel_rfl
  i4 := by kernel_rfl
  i5 := by kernel_rfl
  i9 := by kernel_rfl
  i46 := by kernel_rfl
  i53 := by kernel_rfl
  i212 := by kernel_rfl
  m17 := by kernel_rfl }
open Go.Lib in
theorem Tryz.internal_strconv_numDigits (u : Nat) (h1 : 1 ≤ u) (h2 : u < 18446744073709551616) (w : World) (htab : Lib.TabIs Tryz.prog w "internal/strconv.uint64pow10" .u64 Lib.pow10Tab) :
    Calls Tryz.prog 204 #[.int .u64 u] w fun e w' => e = .returned (.int .i64 (Lib.nDigits u)) ∧ w' = w := Any.internal_strconv_numDigits Tryz.laysM284 u h1 h2 w htab
def Tryz.lays285_ren : Go.Shelf.Ren := ⟨fun | 285 => 205 | n => n, fun | 37 => 200 | 53 => 165 | 3 => 3 | 4 => 4 | 51 => 233 | 9 => 9 | 5 => 5 | 0 => 0 | n => n, fun | n => n⟩
theorem Tryz.lays285 : Go.Proofs.Lays.n285 Tryz.prog Tryz.lays285_ren := {
  mixed := by kernel_rfl
  f285 := Tryz.func205.trans (congrArg some (by kernel_rfl))
  t0 := Tryz.underlying0
  a0 := Tryz.isAgg0
  z0 := Tryz.sizeOf0
  v0 := Tryz.zeroValue0
  t3 := Tryz.underlying3
  a3 := Tryz.isAgg3
  z3 := Tryz.sizeOf3
  v3 := Tryz.zeroValue3
  t4 := Tryz.underlying4
  a4 := Tryz.isAgg4
  z4 := Tryz.sizeOf4
  v4 := Tryz.zeroValue4
  t5 := Tryz.underlying5
  a5 := Tryz.isAgg5
  z5 := Tryz.sizeOf5
  v5 := Tryz.zeroValue5
  t9 := Tryz.underlying9
  a9 := Tryz.isAgg9
  z9 := Tryz.sizeOf9
  v9 := Tryz.zeroValue9
  t37 := Tryz.underlying200
  a37 := Tryz.isAgg200
  z37 := Tryz.sizeOf200
  v37 := Tryz.zeroValue200
  t51 := Tryz.underlying233
  a51 := Tryz.isAgg233
  z51 := Tryz.sizeOf233
  v51 := Tryz.zeroValue233
  t53 := Tryz.underlying165
  a53 := Tryz.isAgg165
  z53 := Tryz.sizeOf165
  v53 := Tryz.zeroValue165 }
open Go.RowKit Go.Sort Go.Lib in
theorem Tryz.internal_strconv_formatBase10 (blk off cap : Nat) (u : Nat) (d : Array UInt8) (w : World) (hH : Holds (fun (b : UInt8) => Value.int .u8 (b.toNat : Int)) w blk off d) (hu : u < 10 ^ d.size) (hu64 : u < 18446744073709551616) (hsz : d.size < 4611686018427387904) :
    Calls Tryz.prog 205 #[.slice (some ⟨blk, off, none⟩) d.size cap, .int .u64 u] w fun e w' =>
      e = .returned (.tuple #[]) ∧ ∃ (n v' : Nat) (dk : Array UInt8), w' = (putRow (fun (b : UInt8) => Value.int .u8 (b.toNat : Int)) w blk off dk).drewN n ∧ FmtInv d.size u 0 v' dk := Any.internal_strconv_formatBase10 Tryz.lays285 blk off cap u d w hH hu hu64 hsz
def Tryz.laysM171_ren : Go.Shelf.Ren := ⟨fun | 171 => 131 | 243 => 167 | 246 => 190 | 283 => 203 | 284 => 204 | 285 => 205 | 286 => 206 | 129 => 214 | 317 => 213 | 318 => 215 | 319 => 216 | 320 => 217 | 337 => 218 | 338 => 219 | n => n, fun | 3 => 3 | 9 => 9 | 2 => 2 | 4 => 4 | 171 => 220 | 0 => 0 | 53 => 165 | 37 => 200 | 5 => 5 | 173 => 223 | 212 => 237 | 51 => 233 | 20 => 20 | 213 => 238 | 46 => 215 | 232 => 244 | 233 => 245 | n => n, fun | 17 => 3 | 18 => 4 | 19 => 5 | n => n⟩
theorem Tryz.laysM171 : Go.Proofs.LaysM.n171 Tryz.prog Tryz.laysM171_ren := {
  mixed := by kernel_rfl
  f129 := Tryz.func214.trans (congrArg some (by kernel_rfl))
  f171 := Tryz.func131.trans (congrArg some (by kernel_rfl))
  f243 := Tryz.func167.trans (congrArg some (by kernel_rfl))
  f246 := Tryz.func190.trans (congrArg some (by kernel_rfl))
  f283 := Tryz.func203.trans (congrArg some (by kernel_rfl))
  f284 := Tryz.func204.trans (congrArg some (by kernel_rfl))
  f285 := Tryz.func205.trans (congrArg some (by kernel_rfl))
  f286 := Tryz.func206.trans (congrArg some (by kernel_rfl))
  f317 := Tryz.func213.trans (congrArg some (by kernel_rfl))
  f318 := Tryz.func215.trans (congrArg some (by kernel_rfl))
  f319 := Tryz.func216.trans (congrArg some (by kernel_rfl))
  f320 := Tryz.func217.trans (congrArg some (by kernel_rfl))
  f337 := Tryz.func218.trans (congrArg some (by kernel_rfl))
  f338 := Tryz.func219.trans (congrArg some (by kernel_rfl))
  t0 := Tryz.underlying0
  a0 := Tryz.isAgg0
  z0 := Tryz.sizeOf0
  v0 := Tryz.zeroValue0
  t2 := Tryz.underlying2
  a2 := Tryz.isAgg2
  z2 := Tryz.sizeOf2
  v2 := Tryz.zeroValue2
  t3 := Tryz.underlying3
  a3 := Tryz.isAgg3
  z3 := Tryz.sizeOf3
  v3 := Tryz.zeroValue3
  t4 := Tryz.underlying4
  a4 := Tryz.isAgg4
  z4 := Tryz.sizeOf4
  v4 := Tryz.zeroValue4
  t5 := Tryz.underlying5
  a5 := Tryz.isAgg5
  z5 := Tryz.sizeOf5
  v5 := Tryz.zeroValue5
  t9 := Tryz.underlying9
  a9 := Tryz.isAgg9
  z9 := Tryz.sizeOf9
  v9 := Tryz.zeroValue9
  t20 := Tryz.underlying20
  a20 := Tryz.isAgg20
  z20 := Tryz.sizeOf20
  v20 := Tryz.zeroValue20
  t37 := Tryz.underlying200
  a37 := Tryz.isAgg200
  z37 := Tryz.sizeOf200
  v37 := Tryz.zeroValue200
  t46 := Tryz.underlying215
  a46 := Tryz.isAgg215
  z46 := Tryz.sizeOf215
  v46 := Tryz.zeroValue215
  t51 := Tryz.underlying233
  a51 := Tryz.isAgg233
  z51 := Tryz.sizeOf233
  v51 := Tryz.zeroValue233
  t53 := Tryz.underlying165
  a53 := Tryz.isAgg165
  z53 := Tryz.sizeOf165
  v53 := Tryz.zeroValue165
  t171 := Tryz.underlying220
  a171 := Tryz.isAgg220
  z171 := Tryz.sizeOf220
  v171 := Tryz.zeroValue220
  t173 := Tryz.underlying223
  a173 := Tryz.isAgg223
  z173 := Tryz.sizeOf223
  v173 := Tryz.zeroValue223
  t212 := Tryz.underlying237
  a212 := Tryz.isAgg237
  z212 := Tryz.sizeOf237
  v212 := Tryz.zeroValue237
  t213 := Tryz.underlying238
  a213 := Tryz.isAgg238
  z213 := Tryz.sizeOf238
  t232 := Tryz.underlying244
  a232 := Tryz.isAgg244
  z232 := Tryz.sizeOf244
  v232 := Tryz.zeroValue244
  t233 := Tryz.underlying245
  a233 := Tryz.isAgg245
  z233 := Tryz.sizeOf245
  v233 := Tryz.zeroValue245
  g17 := by kernel_rfl
  g18 := by kernel_rfl
  g19 := by kernel_rfl
  i0 := by kernel_rfl
  i2 := by kernel_rfl
  i3 := by kernel_rfl
  i4 := by kernel_rfl
  i5 := by kernel_rfl
  i9 := by kernel_rfl
  i20 := by kernel_rfl
  i37 := by kernel_rfl
  i46 := by kernel_rfl
  i51 := by kernel_rfl
  i53 := by kernel_rfl
  i171 := by kernel_rfl
  i173 := by kernel_rfl
  i212 := by kernel_rfl
  i232 := by kernel_rfl
  i233 := by kernel_rfl
  m17 := by kernel_rfl
  m18 := by kernel_rfl
  m19 := by kernel_rfl }
open Go.RowKit Go.Sort Go.Lib in
theorem Tryz.strconv_Itoa (n : Int) (h0 : -9223372036854775808 ≤ n) (h1 : n ≤ 9223372036854775807) (w : World) (htab : Lib.TabIs Tryz.prog w "internal/strconv.uint64pow10" .u64 Lib.pow10Tab) :
    Calls Tryz.prog 131 #[.int .i64 n] w fun e w' => e = .returned (.string ⟨(Lib.itoa n).toArray⟩) ∧ ∃ k os, w' = grow (w.drewN k) os := Any.strconv_Itoa Tryz.laysM171 n h0 h1 w htab
def Tryz.laysC172_ren : Go.Shelf.Ren := ⟨fun | 172 => 166 | 244 => 189 | 245 => 180 | 247 => 179 | 279 => 195 | 280 => 196 | 281 => 197 | 282 => 198 | 287 => 191 | 316 => 210 | 171 => 131 | 205 => 211 | 321 => 207 | 322 => 208 | 243 => 167 | 246 => 190 | 283 => 203 | 284 => 204 | 285 => 205 | 286 => 206 | 129 => 214 | 317 => 213 | 318 => 215 | 319 => 216 | 320 => 217 | 337 => 218 | 338 => 219 | n => n, fun | 9 => 9 | 3 => 3 | 75 => 177 | 76 => 190 | 4 => 4 | 5 => 5 | 167 => 214 | 37 => 200 | 0 => 0 | 85 => 178 | 2 => 2 | 168 => 216 | 53 => 165 | 175 => 192 | 46 => 215 | 210 => 231 | 127 => 213 | 145 => 242 | 143 => 240 | 21 => 21 | 171 => 220 | 173 => 223 | 212 => 237 | 51 => 233 | 20 => 20 | 213 => 238 | 232 => 244 | 233 => 245 | 80 => 205 | n => n, fun | 15 => 1 | 16 => 2 | 17 => 3 | 18 => 4 | 19 => 5 | n => n⟩
theorem Tryz.laysC172 : Go.Proofs.LaysC.n172 Tryz.prog Tryz.laysC172_ren := {
  mixed := by kernel_rfl
  f129 := Tryz.func214.trans (congrArg some (by kernel_rfl))
  f171 := Tryz.func131.trans (congrArg some (by kernel_rfl))
  f172 := Tryz.func166.trans (congrArg some (by kernel_rfl))
  f205 := Tryz.func211.trans (congrArg some (by kernel_rfl))
  f243 := Tryz.func167.trans (congrArg some (by kernel_rfl))
  f244 := Tryz.func189.trans (congrArg some (by kernel_rfl))
  f245 := Tryz.func180.trans (congrArg some (by kernel_rfl))
  f246 := Tryz.func190.trans (congrArg some (by kernel_rfl))
  f247 := Tryz.func179.trans (congrArg some (by kernel_rfl))
  f279 := Tryz.func195.trans (congrArg some (by kernel_rfl))
  f280 := Tryz.func196.trans (congrArg some (by kernel_rfl))
  f281 := Tryz.func197.trans (congrArg some (by kernel_rfl))
  f282 := Tryz.func198.trans (congrArg some (by kernel_rfl))
  f283 := Tryz.func203.trans (congrArg some (by kernel_rfl))
  f284 := Tryz.func204.trans (congrArg some (by kernel_rfl))
  f285 := Tryz.func205.trans (congrArg some (by kernel_rfl))
  f286 := Tryz.func206.trans (congrArg some (by kernel_rfl))
  f287 := Tryz.func191.trans (congrArg some (by kernel_rfl))
  f316 := Tryz.func210.trans (congrArg some (by kernel_rfl))
  f317 := Tryz.func213.trans (congrArg some (by kernel_rfl))
  f318 := Tryz.func215.trans (congrArg some (by kernel_rfl))
  f319 := Tryz.func216.trans (congrArg some (by kernel_rfl))
  f320 := Tryz.func217.trans (congrArg some (by kernel_rfl))
  f321 := Tryz.func207.trans (congrArg some (by kernel_rfl))
  f322 := Tryz.func208.trans (congrArg some (by kernel_rfl))
  f337 := Tryz.func218.trans (congrArg some (by kernel_rfl))
  f338 := Tryz.func219.trans (congrArg some (by kernel_rfl))
  t0 := Tryz.underlying0
  a0 := Tryz.isAgg0
  z0 := Tryz.sizeOf0
  v0 := Tryz.zeroValue0
  t2 := Tryz.underlying2
  a2 := Tryz.isAgg2
  z2 := Tryz.sizeOf2
  v2 := Tryz.zeroValue2
  t3 := Tryz.underlying3
  a3 := Tryz.isAgg3
  z3 := Tryz.sizeOf3
  v3 := Tryz.zeroValue3
  t4 := Tryz.underlying4
  a4 := Tryz.isAgg4
  z4 := Tryz.sizeOf4
  v4 := Tryz.zeroValue4
  t5 := Tryz.underlying5
  a5 := Tryz.isAgg5
  z5 := Tryz.sizeOf5
  v5 := Tryz.zeroValue5
  t9 := Tryz.underlying9
  a9 := Tryz.isAgg9
  z9 := Tryz.sizeOf9
  v9 := Tryz.zeroValue9
  t20 := Tryz.underlying20
  a20 := Tryz.isAgg20
  z20 := Tryz.sizeOf20
  v20 := Tryz.zeroValue20
  t21 := Tryz.underlying21
  a21 := Tryz.isAgg21
  z21 := Tryz.sizeOf21
  v21 := Tryz.zeroValue21
  t37 := Tryz.underlying200
  a37 := Tryz.isAgg200
  z37 := Tryz.sizeOf200
  v37 := Tryz.zeroValue200
  t46 := Tryz.underlying215
  a46 := Tryz.isAgg215
  z46 := Tryz.sizeOf215
  v46 := Tryz.zeroValue215
  t51 := Tryz.underlying233
  a51 := Tryz.isAgg233
  z51 := Tryz.sizeOf233
  v51 := Tryz.zeroValue233
  t53 := Tryz.underlying165
  a53 := Tryz.isAgg165
  z53 := Tryz.sizeOf165
  v53 := Tryz.zeroValue165
  t75 := Tryz.underlying177
  a75 := Tryz.isAgg177
  z75 := Tryz.sizeOf177
  v75 := Tryz.zeroValue177
  t76 := Tryz.underlying190
  a76 := Tryz.isAgg190
  z76 := Tryz.sizeOf190
  v76 := Tryz.zeroValue190
  t85 := Tryz.underlying178
  a85 := Tryz.isAgg178
  z85 := Tryz.sizeOf178
  v85 := Tryz.zeroValue178
  t127 := Tryz.underlying213
  a127 := Tryz.isAgg213
  z127 := Tryz.sizeOf213
  v127 := Tryz.zeroValue213
  t143 := Tryz.underlying240
  a143 := Tryz.isAgg240
  z143 := Tryz.sizeOf240
  v143 := Tryz.zeroValue240
  t145 := Tryz.underlying242
  a145 := Tryz.isAgg242
  z145 := Tryz.sizeOf242
  v145 := Tryz.zeroValue242
  t167 := Tryz.underlying214
  a167 := Tryz.isAgg214
  z167 := Tryz.sizeOf214
  v167 := Tryz.zeroValue214
  t168 := Tryz.underlying216
  a168 := Tryz.isAgg216
  z168 := Tryz.sizeOf216
  v168 := Tryz.zeroValue216
  t171 := Tryz.underlying220
  a171 := Tryz.isAgg220
  z171 := Tryz.sizeOf220
  v171 := Tryz.zeroValue220
  t173 := Tryz.underlying223
  a173 := Tryz.isAgg223
  z173 := Tryz.sizeOf223
  v173 := Tryz.zeroValue223
  t175 := Tryz.underlying192
  a175 := Tryz.isAgg192
  z175 := Tryz.sizeOf192
  v175 := Tryz.zeroValue192
  t210 := Tryz.underlying231
  a210 := Tryz.isAgg231
  z210 := Tryz.sizeOf231
  v210 := Tryz.zeroValue231
  t212 := Tryz.underlying237
  a212 := Tryz.isAgg237
  z212 := Tryz.sizeOf237
  v212 := Tryz.zeroValue237
  t213 := Tryz.underlying238
  a213 := Tryz.isAgg238
  z213 := Tryz.sizeOf238
  t232 := Tryz.underlying244
  a232 := Tryz.isAgg244
  z232 := Tryz.sizeOf244
  v232 := Tryz.zeroValue244
  t233 := Tryz.underlying245
  a233 := Tryz.isAgg245
  z233 := Tryz.sizeOf245
  v233 := Tryz.zeroValue245
  g15 := by kernel_rfl
  g16 := by kernel_rfl
  g17 := by kernel_rfl
  g18 := by kernel_rfl
  g19 := by kernel_rfl
  t80 := Tryz.underlying205
  a80 := Tryz.isAgg205
  z80 := Tryz.sizeOf205
  v80 := Tryz.zeroValue205
  i0 := by kernel_rfl
  i2 := by kernel_rfl
  i3 := by kernel_rfl
  i4 := by kernel_rfl
  i5 := by kernel_rfl
  i9 := by kernel_rfl
  i20 := by kernel_rfl
  i21 := by kernel_rfl
  i37 := by kernel_rfl
  i46 := by kernel_rfl
  i51 := by kernel_rfl
  i53 := by kernel_rfl
  i75 := by kernel_rfl
  i76 := by kernel_rfl
  i80 := by kernel_rfl
  i85 := by kernel_rfl
  i127 := by kernel_rfl
  i143 := by kernel_rfl
  i145 := by kernel_rfl
  i167 := by kernel_rfl
  i168 := by kernel_rfl
  i171 := by kernel_rfl
  i173 := by kernel_rfl
  i175 := by kernel_rfl
  i210 := by kernel_rfl
  i212 := by kernel_rfl
  i232 := by kernel_rfl
  i233 := by kernel_rfl
  m15 := by kernel_rfl
  m16 := by kernel_rfl
  m17 := by kernel_rfl
  m18 := by kernel_rfl
  m19 := by kernel_rfl
  c0 := by kernel_rfl
  c2 := by kernel_rfl
  c3 := by kernel_rfl
  c4 := by kernel_rfl
  c5 := by kernel_rfl
  c9 := by kernel_rfl
  c20 := by kernel_rfl
  c21 := by kernel_rfl
  c37 := by kernel_rfl
  c46 := by kernel_rfl
  c51 := by kernel_rfl
  c53 := by kernel_rfl
  c75 := by kernel_rfl
  c76 := by kernel_rfl
  c80 := by kernel_rfl
  c85 := by kernel_rfl
  c127 := by kernel_rfl
  c143 := by kernel_rfl
  c145 := by kernel_rfl
  c167 := by kernel_rfl
  c168 := by kernel_rfl
  c171 := by kernel_rfl
  c173 := by kernel_rfl
  c175 := by kernel_rfl
  c210 := by kernel_rfl
  c212 := by kernel_rfl
  c213 := by kernel_rfl
  c232 := by kernel_rfl
  c233 := by kernel_rfl }
open Go.RowKit in
theorem Tryz.strconv_Atoi_ok (s : ByteArray) (hmax : s.size ≤ 9223372036854775806) (v : Int) (h : Lib.atoiAll s.data.toList = .ok v) (w : World) :
    Calls Tryz.prog 166 #[.string s] w fun e w' => e = .returned (.tuple #[.int .i64 v, .nilIface]) ∧ (w' = w ∨ ∃ t, w' = Lib.bytesWorld w 5 t) := Any.strconv_Atoi_ok Tryz.laysC172 s hmax v h w
def Tryz.laysC174_ren : Go.Shelf.Ren := ⟨fun | 174 => 152 | 247 => 179 | 245 => 180 | 287 => 191 | 279 => 195 | 280 => 196 | 281 => 197 | 282 => 198 | 321 => 207 | 322 => 208 | 316 => 210 | 171 => 131 | 205 => 211 | 243 => 167 | 246 => 190 | 283 => 203 | 284 => 204 | 285 => 205 | 286 => 206 | 129 => 214 | 317 => 213 | 318 => 215 | 319 => 216 | 320 => 217 | 337 => 218 | 338 => 219 | n => n, fun | 9 => 9 | 3 => 3 | 2 => 2 | 75 => 177 | 85 => 178 | 4 => 4 | 167 => 214 | 5 => 5 | 53 => 165 | 175 => 192 | 46 => 215 | 168 => 216 | 37 => 200 | 0 => 0 | 210 => 231 | 21 => 21 | 127 => 213 | 145 => 242 | 143 => 240 | 171 => 220 | 173 => 223 | 212 => 237 | 51 => 233 | 20 => 20 | 213 => 238 | 232 => 244 | 233 => 245 | 80 => 205 | n => n, fun | 15 => 1 | 16 => 2 | 17 => 3 | 18 => 4 | 19 => 5 | n => n⟩
theorem Tryz.laysC174 : Go.Proofs.LaysC.n174 Tryz.prog Tryz.laysC174_ren := {
  mixed := by kernel_rfl
  f129 := Tryz.func214.trans (congrArg some (by kernel_rfl))
  f171 := Tryz.func131.trans (congrArg some (by kernel_rfl))
  f174 := Tryz.func152.trans (congrArg some (by kernel_rfl))
  f205 := Tryz.func211.trans (congrArg some (by kernel_rfl))
  f243 := Tryz.func167.trans (congrArg some (by kernel_rfl))
  f245 := Tryz.func180.trans (congrArg some (by kernel_rfl))
  f246 := Tryz.func190.trans (congrArg some (by kernel_rfl))
  f247 := Tryz.func179.trans (congrArg some (by kernel_rfl))
  f279 := Tryz.func195.trans (congrArg some (by kernel_rfl))
  f280 := Tryz.func196.trans (congrArg some (by kernel_rfl))
  f281 := Tryz.func197.trans (congrArg some (by kernel_rfl))
  f282 := Tryz.func198.trans (congrArg some (by kernel_rfl))
  f283 := Tryz.func203.trans (congrArg some (by kernel_rfl))
  f284 := Tryz.func204.trans (congrArg some (by kernel_rfl))
  f285 := Tryz.func205.trans (congrArg some (by kernel_rfl))
  f286 := Tryz.func206.trans (congrArg some (by kernel_rfl))
  f287 := Tryz.func191.trans (congrArg some (by kernel_rfl))
  f316 := Tryz.func210.trans (congrArg some (by kernel_rfl))
  f317 := Tryz.func213.trans (congrArg some (by kernel_rfl))
  f318 := Tryz.func215.trans (congrArg some (by kernel_rfl))
  f319 := Tryz.func216.trans (congrArg some (by kernel_rfl))
  f320 := Tryz.func217.trans (congrArg some (by kernel_rfl))
  f321 := Tryz.func207.trans (congrArg some (by kernel_rfl))
  f322 := Tryz.func208.trans (congrArg some (by kernel_rfl))
  f337 := Tryz.func218.trans (congrArg some (by kernel_rfl))
  f338 := Tryz.func219.trans (congrArg some (by kernel_rfl))
  t0 := Tryz.underlying0
  a0 := Tryz.isAgg0
  z0 := Tryz.sizeOf0
  v0 := Tryz.zeroValue0
  t2 := Tryz.underlying2
  a2 := Tryz.isAgg2
  z2 := Tryz.sizeOf2
  v2 := Tryz.zeroValue2
  t3 := Tryz.underlying3
  a3 := Tryz.isAgg3
  z3 := Tryz.sizeOf3
  v3 := Tryz.zeroValue3
  t4 := Tryz.underlying4
  a4 := Tryz.isAgg4
  z4 := Tryz.sizeOf4
  v4 := Tryz.zeroValue4
  t5 := Tryz.underlying5
  a5 := Tryz.isAgg5
  z5 := Tryz.sizeOf5
  v5 := Tryz.zeroValue5
  t9 := Tryz.underlying9
  a9 := Tryz.isAgg9
  z9 := Tryz.sizeOf9
  v9 := Tryz.zeroValue9
  t20 := Tryz.underlying20
  a20 := Tryz.isAgg20
  z20 := Tryz.sizeOf20
  v20 := Tryz.zeroValue20
  t21 := Tryz.underlying21
  a21 := Tryz.isAgg21
  z21 := Tryz.sizeOf21
  v21 := Tryz.zeroValue21
  t37 := Tryz.underlying200
  a37 := Tryz.isAgg200
  z37 := Tryz.sizeOf200
  v37 := Tryz.zeroValue200
  t46 := Tryz.underlying215
  a46 := Tryz.isAgg215
  z46 := Tryz.sizeOf215
  v46 := Tryz.zeroValue215
  t51 := Tryz.underlying233
  a51 := Tryz.isAgg233
  z51 := Tryz.sizeOf233
  v51 := Tryz.zeroValue233
  t53 := Tryz.underlying165
  a53 := Tryz.isAgg165
  z53 := Tryz.sizeOf165
  v53 := Tryz.zeroValue165
  t75 := Tryz.underlying177
  a75 := Tryz.isAgg177
  z75 := Tryz.sizeOf177
  v75 := Tryz.zeroValue177
  t85 := Tryz.underlying178
  a85 := Tryz.isAgg178
  z85 := Tryz.sizeOf178
  v85 := Tryz.zeroValue178
  t127 := Tryz.underlying213
  a127 := Tryz.isAgg213
  z127 := Tryz.sizeOf213
  v127 := Tryz.zeroValue213
  t143 := Tryz.underlying240
  a143 := Tryz.isAgg240
  z143 := Tryz.sizeOf240
  v143 := Tryz.zeroValue240
  t145 := Tryz.underlying242
  a145 := Tryz.isAgg242
  z145 := Tryz.sizeOf242
  v145 := Tryz.zeroValue242
  t167 := Tryz.underlying214
  a167 := Tryz.isAgg214
  z167 := Tryz.sizeOf214
  v167 := Tryz.zeroValue214
  t168 := Tryz.underlying216
  a168 := Tryz.isAgg216
  z168 := Tryz.sizeOf216
  v168 := Tryz.zeroValue216
  t171 := Tryz.underlying220
  a171 := Tryz.isAgg220
  z171 := Tryz.sizeOf220
  v171 := Tryz.zeroValue220
  t173 := Tryz.underlying223
  a173 := Tryz.isAgg223
  z173 := Tryz.sizeOf223
  v173 := Tryz.zeroValue223
  t175 := Tryz.underlying192
  a175 := Tryz.isAgg192
  z175 := Tryz.sizeOf192
  v175 := Tryz.zeroValue192
  t210 := Tryz.underlying231
  a210 := Tryz.isAgg231
  z210 := Tryz.sizeOf231
  v210 := Tryz.zeroValue231
  t212 := Tryz.underlying237
  a212 := Tryz.isAgg237
  z212 := Tryz.sizeOf237
  v212 := Tryz.zeroValue237
  t213 := Tryz.underlying238
  a213 := Tryz.isAgg238
  z213 := Tryz.sizeOf238
  t232 := Tryz.underlying244
  a232 := Tryz.isAgg244
  z232 := Tryz.sizeOf244
  v232 := Tryz.zeroValue244
  t233 := Tryz.underlying245
  a233 := Tryz.isAgg245
  z233 := Tryz.sizeOf245
  v233 := Tryz.zeroValue245
  g15 := by kernel_rfl
  g16 := by kernel_rfl
  g17 := by kernel_rfl
  g18 := by kernel_rfl
  g19 := by kernel_rfl
  t80 := Tryz.underlying205
  a80 := Tryz.isAgg205
  z80 := Tryz.sizeOf205
  v80 := Tryz.zeroValue205
  i0 := by kernel_rfl
  i2 := by kernel_rfl
  i3 := by kernel_rfl
  i4 := by kernel_rfl
  i5 := by kernel_rfl
  i9 := by kernel_rfl
  i20 := by kernel_rfl
  i21 := by kernel_rfl
  i37 := by kernel_rfl
  i46 := by kernel_rfl
  i51 := by kernel_rfl
  i53 := by kernel_rfl
  i75 := by kernel_rfl
  i80 := by kernel_rfl
  i85 := by kernel_rfl
  i127 := by kernel_rfl
  i143 := by kernel_rfl
  i145 := by kernel_rfl
  i167 := by kernel_rfl
  i168 := by kernel_rfl
  i171 := by kernel_rfl
  i173 := by kernel_rfl
  i175 := by kernel_rfl
  i210 := by kernel_rfl
  i212 := by kernel_rfl
  i232 := by kernel_rfl
  i233 := by kernel_rfl
  m15 := by kernel_rfl
  m16 := by kernel_rfl
  m17 := by kernel_rfl
  m18 := by kernel_rfl
  m19 := by kernel_rfl
  c0 := by kernel_rfl
  c2 := by kernel_rfl
  c3 := by kernel_rfl
  c4 := by kernel_rfl
  c5 := by kernel_rfl
  c9 := by kernel_rfl
  c20 := by kernel_rfl
  c21 := by kernel_rfl
  c37 := by kernel_rfl
  c46 := by kernel_rfl
  c51 := by kernel_rfl
  c53 := by kernel_rfl
  c75 := by kernel_rfl
  c80 := by kernel_rfl
  c85 := by kernel_rfl
  c127 := by kernel_rfl
  c143 := by kernel_rfl
  c145 := by kernel_rfl
  c167 := by kernel_rfl
  c168 := by kernel_rfl
  c171 := by kernel_rfl
  c173 := by kernel_rfl
  c175 := by kernel_rfl
  c210 := by kernel_rfl
  c212 := by kernel_rfl
  c213 := by kernel_rfl
  c232 := by kernel_rfl
  c233 := by kernel_rfl }
open Go.RowKit in
theorem Tryz.strconv_ParseInt_10_at64_ok (s : ByteArray) (hmax : s.size ≤ 9223372036854775806) (v : Int) (h : Lib.parseIntB 64 s.data.toList = .ok v) (w : World) :
    Calls Tryz.prog 152 #[.string s, .int .i64 10, .int .i64 64] w fun e w' => e = .returned (.tuple #[.int .i64 v, .nilIface]) ∧ (w' = w ∨ ∃ t, w' = Lib.bytesWorld w 5 t) := Any.strconv_ParseInt_10_at64_ok Tryz.laysC174 s hmax v h w
def Tryz.laysPu14_ren : Go.Shelf.Ren := ⟨fun | 14 => 168 | 16 => 191 | 17 => 180 | 19 => 207 | 20 => 208 | 21 => 195 | 22 => 196 | 23 => 197 | 24 => 198 | 25 => 210 | 27 => 131 | 26 => 211 | 28 => 167 | 29 => 190 | 30 => 203 | 31 => 204 | 32 => 205 | 33 => 206 | 35 => 214 | 34 => 213 | 36 => 215 | 37 => 216 | 38 => 217 | 39 => 218 | 40 => 219 | n => n, fun | 9 => 9 | 3 => 3 | 22 => 165 | 24 => 177 | 25 => 192 | 4 => 4 | 34 => 214 | 5 => 5 | 36 => 215 | 37 => 200 | 0 => 0 | 39 => 216 | 21 => 21 | 44 => 231 | 47 => 213 | 50 => 242 | 48 => 240 | 2 => 2 | 52 => 220 | 55 => 223 | 59 => 237 | 60 => 233 | 20 => 20 | 61 => 238 | 65 => 244 | 66 => 245 | 67 => 205 | n => n, fun | 0 => 1 | 1 => 2 | 2 => 3 | 3 => 4 | 4 => 5 | n => n⟩
theorem Tryz.laysPu14 : Go.Proofs.LaysPu.n14 Tryz.prog Tryz.laysPu14_ren := {
  mixed := by kernel_rfl
  f14 := Tryz.func168.trans (congrArg some (by kernel_rfl))
  f16 := Tryz.func191.trans (congrArg some (by kernel_rfl))
  f17 := Tryz.func180.trans (congrArg some (by kernel_rfl))
  f19 := Tryz.func207.trans (congrArg some (by kernel_rfl))
  f20 := Tryz.func208.trans (congrArg some (by kernel_rfl))
  f21 := Tryz.func195.trans (congrArg some (by kernel_rfl))
  f22 := Tryz.func196.trans (congrArg some (by kernel_rfl))
  f23 := Tryz.func197.trans (congrArg some (by kernel_rfl))
  f24 := Tryz.func198.trans (congrArg some (by kernel_rfl))
  f25 := Tryz.func210.trans (congrArg some (by kernel_rfl))
  f26 := Tryz.func211.trans (congrArg some (by kernel_rfl))
  f27 := Tryz.func131.trans (congrArg some (by kernel_rfl))
  f28 := Tryz.func167.trans (congrArg some (by kernel_rfl))
  f29 := Tryz.func190.trans (congrArg some (by kernel_rfl))
  f30 := Tryz.func203.trans (congrArg some (by kernel_rfl))
  f31 := Tryz.func204.trans (congrArg some (by kernel_rfl))
  f32 := Tryz.func205.trans (congrArg some (by kernel_rfl))
  f33 := Tryz.func206.trans (congrArg some (by kernel_rfl))
  f34 := Tryz.func213.trans (congrArg some (by kernel_rfl))
  f35 := Tryz.func214.trans (congrArg some (by kernel_rfl))
  f36 := Tryz.func215.trans (congrArg some (by kernel_rfl))
  f37 := Tryz.func216.trans (congrArg some (by kernel_rfl))
  f38 := Tryz.func217.trans (congrArg some (by kernel_rfl))
  f39 := Tryz.func218.trans (congrArg some (by kernel_rfl))
  f40 := Tryz.func219.trans (congrArg some (by kernel_rfl))
  t0 := Tryz.underlying0
  a0 := Tryz.isAgg0
  z0 := Tryz.sizeOf0
  v0 := Tryz.zeroValue0
  i0 := by kernel_rfl
  t2 := Tryz.underlying2
  a2 := Tryz.isAgg2
  z2 := Tryz.sizeOf2
  v2 := Tryz.zeroValue2
  i2 := by kernel_rfl
  t3 := Tryz.underlying3
  a3 := Tryz.isAgg3
  z3 := Tryz.sizeOf3
  v3 := Tryz.zeroValue3
  i3 := by kernel_rfl
  t4 := Tryz.underlying4
  a4 := Tryz.isAgg4
  z4 := Tryz.sizeOf4
  v4 := Tryz.zeroValue4
  i4 := by kernel_rfl
  t5 := Tryz.underlying5
  a5 := Tryz.isAgg5
  z5 := Tryz.sizeOf5
  v5 := Tryz.zeroValue5
  i5 := by kernel_rfl
  t9 := Tryz.underlying9
  a9 := Tryz.isAgg9
  z9 := Tryz.sizeOf9
  v9 := Tryz.zeroValue9
  i9 := by kernel_rfl
  t20 := Tryz.underlying20
  a20 := Tryz.isAgg20
  z20 := Tryz.sizeOf20
  v20 := Tryz.zeroValue20
  i20 := by kernel_rfl
  t21 := Tryz.underlying21
  a21 := Tryz.isAgg21
  z21 := Tryz.sizeOf21
  v21 := Tryz.zeroValue21
  i21 := by kernel_rfl
  t22 := Tryz.underlying165
  a22 := Tryz.isAgg165
  z22 := Tryz.sizeOf165
  v22 := Tryz.zeroValue165
  i22 := by kernel_rfl
  t24 := Tryz.underlying177
  a24 := Tryz.isAgg177
  z24 := Tryz.sizeOf177
  v24 := Tryz.zeroValue177
  i24 := by kernel_rfl
  t25 := Tryz.underlying192
  a25 := Tryz.isAgg192
  z25 := Tryz.sizeOf192
  v25 := Tryz.zeroValue192
  i25 := by kernel_rfl
  t34 := Tryz.underlying214
  a34 := Tryz.isAgg214
  z34 := Tryz.sizeOf214
  v34 := Tryz.zeroValue214
  i34 := by kernel_rfl
  c34 := by kernel_rfl
  t36 := Tryz.underlying215
  a36 := Tryz.isAgg215
  z36 := Tryz.sizeOf215
  v36 := Tryz.zeroValue215
  i36 := by kernel_rfl
  t37 := Tryz.underlying200
  a37 := Tryz.isAgg200
  z37 := Tryz.sizeOf200
  v37 := Tryz.zeroValue200
  i37 := by kernel_rfl
  t39 := Tryz.underlying216
  a39 := Tryz.isAgg216
  z39 := Tryz.sizeOf216
  v39 := Tryz.zeroValue216
  i39 := by kernel_rfl
  t44 := Tryz.underlying231
  a44 := Tryz.isAgg231
  z44 := Tryz.sizeOf231
  v44 := Tryz.zeroValue231
  i44 := by kernel_rfl
  t47 := Tryz.underlying213
  a47 := Tryz.isAgg213
  z47 := Tryz.sizeOf213
  v47 := Tryz.zeroValue213
  i47 := by kernel_rfl
  t48 := Tryz.underlying240
  a48 := Tryz.isAgg240
  z48 := Tryz.sizeOf240
  v48 := Tryz.zeroValue240
  i48 := by kernel_rfl
  t50 := Tryz.underlying242
  a50 := Tryz.isAgg242
  z50 := Tryz.sizeOf242
  v50 := Tryz.zeroValue242
  i50 := by kernel_rfl
  t52 := Tryz.underlying220
  a52 := Tryz.isAgg220
  z52 := Tryz.sizeOf220
  v52 := Tryz.zeroValue220
  i52 := by kernel_rfl
  t55 := Tryz.underlying223
  a55 := Tryz.isAgg223
  z55 := Tryz.sizeOf223
  v55 := Tryz.zeroValue223
  i55 := by kernel_rfl
  t59 := Tryz.underlying237
  a59 := Tryz.isAgg237
  z59 := Tryz.sizeOf237
  v59 := Tryz.zeroValue237
  i59 := by kernel_rfl
  t60 := Tryz.underlying233
  a60 := Tryz.isAgg233
  z60 := Tryz.sizeOf233
  v60 := Tryz.zeroValue233
  i60 := by kernel_rfl
  t61 := Tryz.underlying238
  a61 := Tryz.isAgg238
  z61 := Tryz.sizeOf238
  t65 := Tryz.underlying244
  a65 := Tryz.isAgg244
  z65 := Tryz.sizeOf244
  v65 := Tryz.zeroValue244
  i65 := by kernel_rfl
  t66 := Tryz.underlying245
  a66 := Tryz.isAgg245
  z66 := Tryz.sizeOf245
  v66 := Tryz.zeroValue245
  i66 := by kernel_rfl
  t67 := Tryz.underlying205
  a67 := Tryz.isAgg205
  z67 := Tryz.sizeOf205
  v67 := Tryz.zeroValue205
  i67 := by kernel_rfl
  g0 := by kernel_rfl
  m0 := by kernel_rfl
  g1 := by kernel_rfl
  m1 := by kernel_rfl
  g2 := by kernel_rfl
  m2 := by kernel_rfl
  g3 := by kernel_rfl
  m3 := by kernel_rfl
  g4 := by kernel_rfl
  m4 := by kernel_rfl }
open Go.RowKit in
theorem Tryz.strconv_ParseUint_10_at64_ok (s : ByteArray) (hmax : s.size ≤ 9223372036854775806) (u : Nat) (h : Lib.parseUintB 64 s.data.toList = .ok u) (w : World) :
    Calls Tryz.prog 168 #[.string s, .int .i64 10, .int .i64 64] w fun e w' => e = .returned (.tuple #[.int .u64 u, .nilIface]) ∧ (w' = w ∨ w' = Lib.bytesWorld w 5 s) := Any.strconv_ParseUint_10_at64_ok Tryz.laysPu14 s hmax u h w
def Tryz.lays145_ren : Go.Shelf.Ren := ⟨fun | 145 => 116 | 220 => 153 | 219 => 181 | 217 => 121 | 225 => 199 | 224 => 200 | 267 => 201 | 266 => 157 | 314 => 212 | n => n, fun | 9 => 9 | 4 => 4 | 59 => 148 | 3 => 3 | 5 => 5 | 46 => 215 | 146 => 234 | 51 => 233 | n => n, fun | 1 => 0 | n => n⟩
theorem Tryz.lays145 : Go.Proofs.Lays.n145 Tryz.prog Tryz.lays145_ren := {
  mixed := by kernel_rfl
  f145 := Tryz.func116.trans (congrArg some (by kernel_rfl))
  f217 := Tryz.func121.trans (congrArg some (by kernel_rfl))
  f219 := Tryz.func181.trans (congrArg some (by kernel_rfl))
  f220 := Tryz.func153.trans (congrArg some (by kernel_rfl))
  f224 := Tryz.func200.trans (congrArg some (by kernel_rfl))
  f225 := Tryz.func199.trans (congrArg some (by kernel_rfl))
  f266 := Tryz.func157.trans (congrArg some (by kernel_rfl))
  f267 := Tryz.func201.trans (congrArg some (by kernel_rfl))
  f314 := Tryz.func212.trans (congrArg some (by kernel_rfl))
  t3 := Tryz.underlying3
  a3 := Tryz.isAgg3
  z3 := Tryz.sizeOf3
  v3 := Tryz.zeroValue3
  t4 := Tryz.underlying4
  a4 := Tryz.isAgg4
  z4 := Tryz.sizeOf4
  v4 := Tryz.zeroValue4
  t5 := Tryz.underlying5
  a5 := Tryz.isAgg5
  z5 := Tryz.sizeOf5
  v5 := Tryz.zeroValue5
  t9 := Tryz.underlying9
  a9 := Tryz.isAgg9
  z9 := Tryz.sizeOf9
  v9 := Tryz.zeroValue9
  t46 := Tryz.underlying215
  a46 := Tryz.isAgg215
  z46 := Tryz.sizeOf215
  v46 := Tryz.zeroValue215
  t51 := Tryz.underlying233
  a51 := Tryz.isAgg233
  z51 := Tryz.sizeOf233
  v51 := Tryz.zeroValue233
  t59 := Tryz.underlying148
  a59 := Tryz.isAgg148
  z59 := Tryz.sizeOf148
  v59 := Tryz.zeroValue148
  t146 := Tryz.underlying234
  a146 := Tryz.isAgg234
  z146 := Tryz.sizeOf234
  v146 := Tryz.zeroValue234
  g1 := by kernel_rfl }
open Go.RowKit Go.Lib in
theorem Tryz.strings_Cut (s sep : ByteArray) (m : Int) (w : World) (hs : s.size < 4294967281) (hm : w.cell? ⟨0, 0, none⟩ = some (.int .i64 m)) :
    Calls Tryz.prog 116 #[.string s, .string sep] w fun e w' => e = .returned (.tuple #[.string ⟨(Lib.cut s.data.toList sep.data.toList).1.toArray⟩, .string ⟨(Lib.cut s.data.toList sep.data.toList).2.1.toArray⟩, .bool (Lib.cut s.data.toList sep.data.toList).2.2]) ∧ ∃ n, w' = w.drewN n := Any.strings_Cut Tryz.lays145 s sep m w hs hm
def Tryz.lays99_ren : Go.Shelf.Ren := ⟨fun | 99 => 151 | 206 => 178 | n => n, fun | 9 => 9 | 4 => 4 | 3 => 3 | n => n, fun | n => n⟩
theorem Tryz.lays99 : Go.Proofs.Lays.n99 Tryz.prog Tryz.lays99_ren := {
  mixed := by kernel_rfl
  f99 := Tryz.func151.trans (congrArg some (by kernel_rfl))
  f206 := Tryz.func178.trans (congrArg some (by kernel_rfl))
  t3 := Tryz.underlying3
  a3 := Tryz.isAgg3
  z3 := Tryz.sizeOf3
  v3 := Tryz.zeroValue3
  t4 := Tryz.underlying4
  a4 := Tryz.isAgg4
  z4 := Tryz.sizeOf4
  v4 := Tryz.zeroValue4
  t9 := Tryz.underlying9
  a9 := Tryz.isAgg9
  z9 := Tryz.sizeOf9
  v9 := Tryz.zeroValue9 }
open Go.RowKit Go.Lib in
theorem Tryz.strings_HasPrefix (s p : ByteArray) (w : World) :
    Calls Tryz.prog 151 #[.string s, .string p] w fun e w' => e = .returned (.bool (Lib.hasPrefix s.data.toList p.data.toList)) ∧ w' = w := Any.strings_HasPrefix Tryz.lays99 s p w
def Tryz.lays101_ren : Go.Shelf.Ren := ⟨fun | 101 => 155 | 208 => 183 | 206 => 178 | n => n, fun | 9 => 9 | 4 => 4 | 3 => 3 | n => n, fun | n => n⟩
theorem Tryz.lays101 : Go.Proofs.Lays.n101 Tryz.prog Tryz.lays101_ren := {
  mixed := by kernel_rfl
  f101 := Tryz.func155.trans (congrArg some (by kernel_rfl))
  f206 := Tryz.func178.trans (congrArg some (by kernel_rfl))
  f208 := Tryz.func183.trans (congrArg some (by kernel_rfl))
  t3 := Tryz.underlying3
  a3 := Tryz.isAgg3
  z3 := Tryz.sizeOf3
  v3 := Tryz.zeroValue3
  t4 := Tryz.underlying4
  a4 := Tryz.isAgg4
  z4 := Tryz.sizeOf4
  v4 := Tryz.zeroValue4
  t9 := Tryz.underlying9
  a9 := Tryz.isAgg9
  z9 := Tryz.sizeOf9
  v9 := Tryz.zeroValue9 }
open Go.RowKit Go.Lib in
theorem Tryz.strings_TrimPrefix (s p : ByteArray) (w : World) :
    Calls Tryz.prog 155 #[.string s, .string p] w fun e w' => e = .returned (.string ⟨(Lib.trimPrefix s.data.toList p.data.toList).toArray⟩) ∧ w' = w := Any.strings_TrimPrefix Tryz.lays101 s p w
end Go.Proofs
namespace Go.Proofs.Kl
open Go.RowKit
/-- a block that was there stays behind an allocation. -/
theorem halloc_old (w : World) (o : Obj) (i : Nat) (h : i < w.heap.size) : (w.alloc o).heap[i]? = w.heap[i]? := by
  show (w.heap.push o)[i]? = w.heap[i]?
  rw [Array.getElem?_push_lt h, Array.getElem?_eq_getElem h]
theorem hasMinus_digits {c : UInt8} {r : List UInt8} (h : isD c = true) : Lib.hasPrefix (c :: r) [45] = false := by
  have : c ≠ 45 := by intro e; subst e; simp [isD] at h
  simp [Lib.hasPrefix, List.isPrefixOf, Ne.symm this]
theorem hasMinus_dec (u : Nat) : Lib.hasPrefix (Lib.decDigits u) [45] = false := by
  obtain ⟨c, r, e, hc⟩ := decDigits_cons_digit u
  rw [e]; exact hasMinus_digits hc
theorem trimMinus_dec (u : Nat) : Lib.trimPrefix (Lib.decDigits u) [45] = Lib.decDigits u := by
  unfold Lib.trimPrefix; rw [hasMinus_dec]; rfl
theorem hasMinus_neg (l : List UInt8) : Lib.hasPrefix (45 :: l) [45] = true := by simp [Lib.hasPrefix, List.isPrefixOf]
theorem trimMinus_neg (l : List UInt8) : Lib.trimPrefix (45 :: l) [45] = l := by
  unfold Lib.trimPrefix; rw [hasMinus_neg]; rfl
theorem hasMinus_itoa (n : Int) : Lib.hasPrefix (Lib.itoa n) [45] = decide (n < 0) := by
  by_cases h : n < 0
  · rw [itoa_neg h, hasMinus_neg]; simp [h]
  · rw [itoa_nonneg (by omega), hasMinus_dec]; simp [h]
theorem trimMinus_itoa (n : Int) : Lib.trimPrefix (Lib.itoa n) [45] = Lib.decDigits n.natAbs := by
  by_cases h : n < 0
  · rw [itoa_neg h, trimMinus_neg]
  · rw [itoa_nonneg (by omega), trimMinus_dec]; congr 1; omega
end Go.Proofs.Kl
namespace Go.Proofs.Kl
open Go.RowKit
theorem below_bytesWorld (w : World) (e : TypeId) (s : ByteArray) : Below w.heap.size w (Lib.bytesWorld w e s) := by
  have h1 : Below w.heap.size w (w.drew.alloc (.cells (Lib.bytesCells w e s) e)) := (Below.refl _ _).drew.alloc (Nat.le_refl _) _
  unfold Lib.bytesWorld
  refine ⟨h1.os, h1.tape, h1.output, by simp [World.freeze], fun i hi => ?_⟩
  have := h1.block i hi
  rw [← this]
  simp only [World.freeze]
  rw [if_neg (by decide)]
  simp only [Array.getElem?_modify]
  rw [if_neg (by omega)]

/-- an append of one number within the capacity, at a step of a region that draws its order. -/
theorem step_app_fits {P : Program} {ops : Array Oper} {o : Oper} {a : Act} {K : Act → World → Prop} {Q : Exit → Act → World → Prop} {E : Prop} (W : World) (hg : o.guard = none) (s x : Operand) (t e : TypeId) (kd : IntKind) (bytes : Nat)
    (hop : o.op = Op.call { callee := Callee.builtin Builtin.append, args := #[s, x], argTypes := #[t, t] }) (h1 : P.underlying t = some (.slice e)) (hinfo : (P.info? e).map (fun i => (i.zero, i.size, i.bytes)) = some (some (.int kd 0), 1, bytes))
    (base g cap k B : Nat) (zs : List Nat) (hk : k = zs.length) (hs : a.eval s = .slice (some ⟨g, 0, none⟩) k cap) (hx : a.eval x = .slice (some ⟨B, 0, none⟩) 1 1) (hown : W.ownsRow base e 1 (.slice (some ⟨g, 0, none⟩) k cap) k (nu kd zs))
    (y : Nat) (hB : W.heap[B]? = some (.cells #[.int kd (y : Int)] e (0, 0))) (hroom : k + 1 ≤ cap)
    (h : ∀ w1, w1.ownsRow base e 1 (.slice (some ⟨g, 0, none⟩) (k + 1) cap) (k + 1) (nu kd (zs ++ [y])) → W.grownBy w1 (some g) → K (a.put o.dst (.slice (some ⟨g, 0, none⟩) (k + 1) cap)) w1) :
    if Region.wanted o (yielded ops a.tmps) = true then Oper.wp P o a W K Q else E := by
  have hw : Region.wanted o (yielded ops a.tmps) = true := by simp [Region.wanted, hg]
  rw [if_pos hw]
  subst hk
  obtain ⟨i0, hi, hz0, hz1, hz2⟩ := info_parts hinfo
  obtain ⟨w', hrun, r1, r2⟩ := run_append_fits (P := P) W base t o.type e i0 1 h1 hi hz1 g zs.length cap (nu kd zs) hown ⟨B, 0, none⟩ 1 1 [.int kd (y : Int)] rfl (World.news_of_block (cs := #[.int kd (y : Int)]) (t := e) (fr := (0, 0)) hB) (by intro u hu; simp at hu; subst hu; rfl) hroom
  unfold Oper.wp
  simp [execOp, hop, resolve, invoke, builtin, hs, hx, hrun, Result.andThen]
  exact h w' (by rw [nu_append]; simpa [nu] using r1) r2

theorem hop_len {w : World} {base : Nat} {e : TypeId} {A : Option Addr} {k N : Nat} {zs : List Nat} (hk : k = zs.length) (h : w.ownsRow base e 1 (.slice A k N) k (nu .u64 zs)) : k ≤ N := by
  rcases h.2 with ⟨hv, h0⟩ | ⟨g, cap, cur, hv, _, _, hn, _⟩
  · injection hv with _ e2 e3; omega
  · injection hv with _ e2 e3; omega
set_option maxHeartbeats 4000000 in
set_option maxRecDepth 100000 in
theorem open_digits (S : List UInt8) (ds : List UInt8) (neg : Bool) (w : World) (hd : ∀ c ∈ ds, isD c = true) (hl : ds.length ≤ 900000000) (h1 : Lib.trimPrefix S [45] = ds) (h2 : Lib.hasPrefix S [45] = neg) :
    Calls Tryz.prog 134 #[.string (tx S)] w fun e w' => ∃ v, e = .returned (.agg #[.bool neg, v]) ∧ Sl .u64 w' v (pcs 1000000000 (dv ds)) ∧ Below w.heap.size w w' := by
  obtain ⟨i0, hi, hz0, hz1, hz2⟩ := info_parts infoU64
  have H1 := Lib.hid h1
  have H2 := Lib.hid h2
  have HD := Lib.hid hd
  clear h1 h2 hd
  go_enter Tryz.func134, Tryz.ntmps134
  go_wp2_with (first
    | (go_at_call 154; refine (Tryz.strings_CutPrefix _ _ _).mono ?_; simp only; rw [H1.out, H2.out]; rintro e w' ⟨rfl, rfl⟩)
    | (at_make; refine wpList_make_own _ rfl _ _ 157 rfl w.heap.size 165 i0 (.int .u64 0) 1 Tryz.underlying157 hi hz0 hz1 _ _ _ (ds.length / 9 + 1) rfl rfl (by omega) ?b2 ?b3 (by simp) ?_))
  case b2 => rw [hz2]; omega
  case b3 => unfold maxLen; omega
  intro w0 hown0 hgrow0
  go_wp2
  have hb0 : Below w.heap.size w w0 := ((Below.refl _ _).alloc (Nat.le_refl _) (.cells #[.bool false, .slice none 0 0] 159)).grown hgrow0 (by simp) (fun k h => by cases h)
  have hbox : w0.heap[w.heap.size]? = some (.cells #[.bool false, .slice none 0 0] 159) := (hgrow0.block w.heap.size (by simp) (by simp)).trans (World.alloc_heap_new w _)
  clear hgrow0
  go_loopw [3, 5] (fun sv pvv wr => ∃ (wq : World) (m k : Nat) (zs : List Nat), wq = wr ∧ sv = .string (tx (ds.take m)) ∧ k = zs.length ∧ pvv = .slice (some ⟨w.heap.size + 1, 0, none⟩) k (ds.length / 9 + 1) ∧
      wr.ownsRow w.heap.size 165 1 (.slice (some ⟨w.heap.size + 1, 0, none⟩) k (ds.length / 9 + 1)) k (nu .u64 zs) ∧ OpenAt 9 ds zs m ∧ (0 < m → k * 9 + m = ds.length) ∧ wr.heap[w.heap.size]? = some (.cells #[.bool false, .slice none 0 0] 159) ∧ Below w.heap.size w wr)
    (fun sv _ _ => match sv with | .string t => t.size | _ => 0)
  case atStart => exact ⟨_, ds.length, 0, [], rfl, by rw [List.take_length], rfl, rfl, hown0, OpenAt.start 9 ds, fun _ => by omega, hbox, hb0⟩
  case round =>
    obtain ⟨wr, m, k, zs, rfl, rfl, hkz, rfl, hown, hop, hkm, hbx, hbl⟩ := hrel
    have hm := hop.le
    have HOP := Lib.hid hop
    have HKZ := Lib.hid hkz
    have HBX := Lib.hid hbx
    clear hop hkz hbx hbox hb0 hown0
    by_cases hm0 : 0 < m
    · have hkm' := hkm hm0
      clear hkm
      have hsz : (ds.take m).length = m := by simp; omega
      have HSZ := Lib.hid hsz
      have hcut : (tx (ds.take m)).extract (m - 9) m = tx ((ds.take m).drop (m - 9)) := by
        rw [ByteArray.extract_mk, List.take_of_length_le (by simp; omega)]
      have hlen : ((ds.take m).drop (m - 9)).length ≤ 9 := by simp; omega
      have hpos : (ds.take m).drop (m - 9) ≠ [] := by intro e; have := congrArg List.length e; simp at this; omega
      have hdig : ∀ c ∈ (ds.take m).drop (m - 9), isD c = true := fun c hc => HD.out c (List.mem_of_mem_take (List.mem_of_mem_drop hc))
      have hval : dv ((ds.take m).drop (m - 9)) < 1000000000 := Nat.lt_of_lt_of_le (dv_lt _ hdig) (Nat.pow_le_pow_right (n := 10) (by omega) hlen)
      have hpar : Lib.parseUintB 64 (tx ((ds.take m).drop (m - 9))).data.toList = .ok (dv ((ds.take m).drop (m - 9))) := parseUintB_dv (by omega) _ hdig hpos (Nat.lt_trans hval (by decide))
      have HOP2 := Lib.hid (HOP.out.step HD.out)
      have hsmall : (tx ((ds.take m).drop (m - 9))).size ≤ 9 := by show ((ds.take m).drop (m - 9)).toArray.size ≤ 9; simpa using hlen
      have hmax : max ((m : Int) - 9) 0 = ((m - 9 : Nat) : Int) := by omega
      have hcut2 : (tx (ds.take m)).extract 0 (m - 9) = tx (ds.take (m - 9)) := by
        rw [ByteArray.extract_mk, List.drop_zero, Nat.sub_zero, List.take_take, Nat.min_eq_left (by omega)]
      have HCUT2 := Lib.hid hcut2
      clear hcut2
      have HMAX := Lib.hid hmax
      have hq : m - 9 ≤ m := by omega
      have hqk : 0 < m - 9 → (k + 1) * 9 + (m - 9) = ds.length := by omega
      have HQK := Lib.hid hqk
      have hqlt : m - 9 < m := by omega
      have HQLT := Lib.hid hqlt
      clear hmax hqk hqlt
      generalize m - 9 = q at *
      generalize hseg : (ds.take m).drop q = seg at hcut hlen hpos hdig hval hpar HOP2 hsmall
      have HPAR := Lib.hid hpar
      have HCUT := Lib.hid hcut
      clear hdig hpos hlen hseg hpar hcut
      go_wp2_with fail
      rw [HMAX.out, Int.toNat_natCast, HCUT.out]
      refine (Tryz.strconv_ParseUint_10_at64_ok (tx seg) (by omega) _ HPAR.out _).mono ?_
      rintro e w1 ⟨rfl, hw1⟩
      have hbw : Below wr.heap.size wr w1 := by
        rcases hw1 with rfl | rfl
        · exact Below.refl _ _
        · exact below_bytesWorld _ _ _
      clear hw1
      go_wp2
      have hown1 : w1.ownsRow w.heap.size 165 1 (.slice (some ⟨w.heap.size + 1, 0, none⟩) k (ds.length / 9 + 1)) k (nu .u64 zs) := hown.kept (row := none) ⟨hbw.os, hbw.tape, hbw.output, hbw.size, fun i hi _ => hbw.block i hi⟩ (by simp [Value.ownBlock])
      have hbl1 := below_trans hbl hbw
      have hbx1 := (hbw.block _ ((Array.getElem?_eq_some_iff.1 HBX.out).1)).trans HBX.out
      have hroom : k + 1 ≤ ds.length / 9 + 1 := by omega
      clear hbw hown hbl
      generalize hv : dv seg = v at hval HOP2
      go_region_law (refine step_app_fits _ (by rfl) _ _ 157 165 .u64 8 (by rfl) Tryz.underlying157 infoU64 w.heap.size (w.heap.size + 1) (ds.length / 9 + 1) k w1.heap.size zs HKZ.out (by rfl) (by rfl) ((hown1.alloc _).drew) v (heap_alloc_new w1 _) hroom ?_; intro w2 hown2 hgrow2)
      have hb2 : Below w.heap.size w w2 := (((hbl1.alloc hbl1.size _).drew).grown hgrow2 (by have := hbl1.size; simp; omega) (fun k hk => by cases hk; omega))
      have hbx2 : w2.heap[w.heap.size]? = some (.cells #[.bool false, .slice none 0 0] 159) := by
        rw [hgrow2.block w.heap.size (by have := hbl1.size; simp; omega) (by simp)]
        exact (halloc_old w1 _ _ ((Array.getElem?_eq_some_iff.1 hbx1).1)).trans hbx1
      rw [HCUT2.out]
      go_simp
      go_roundw
      case rel =>
        (repeat apply Exists.intro)
        refine ⟨?_, rfl⟩
        exact ⟨_, q, k + 1, zs ++ [v], rfl, rfl, by simp [← HKZ.out], rfl, hown2, HOP2.out, fun h => HQK.out h, hbx2, hb2⟩
      case measure =>
        have := HQLT.out
        show (ds.take q).toArray.size < (ds.take m).toArray.size
        simp; omega
    · obtain rfl : m = 0 := by omega
      have hdone := Lib.hid (HOP.out.done (by decide))
      have hsl := Sl_own' HKZ.out hown (by have := hop_len HKZ.out hown; omega)
      go_wp2_with fail
      refine (trim_at _ _ _ zs _ HKZ.out hsl).mono ?_
      rintro e w' ⟨⟨rfl, hs1⟩, rfl⟩
      have HS1 := Lib.hid hs1
      have c0 : wr.cell? ⟨w.heap.size, 0, none⟩ = some (.bool false) := by have := World.news_of_block HBX.out 0 _ rfl; rwa [addr_add] at this
      have c1 : wr.cell? ⟨w.heap.size, 1, none⟩ = some (.slice none 0 0) := by have := World.news_of_block HBX.out 1 _ rfl; rwa [addr_add] at this
      have f0 : wr.frozen? ⟨w.heap.size, 0, none⟩ = false := by simp [World.frozen?, HBX.out]
      have f1 : wr.frozen? ⟨w.heap.size, 1, none⟩ = false := by simp [World.frozen?, HBX.out]
      go_wp2
      have hfin : Below w.heap.size w ((wr.setCell ⟨w.heap.size, 0, none⟩ (.bool neg)).setCell ⟨w.heap.size, 1, none⟩ (.slice (some ⟨w.heap.size + 1, 0, none⟩) (ptrim zs).length (ds.length / 9 + 1))) := (hbl.setCell (Nat.le_refl _) _).setCell (Nat.le_refl _) _
      have hsf := (HS1.out.setOther (i := 0) (B := w.heap.size) (by omega) (.bool neg)).setOther (i := 1) (B := w.heap.size) (by omega) (.slice (some ⟨w.heap.size + 1, 0, none⟩) (ptrim zs).length (ds.length / 9 + 1))
      have g0 : ((wr.setCell ⟨w.heap.size, 0, none⟩ (.bool neg)).setCell ⟨w.heap.size, 1, none⟩ (.slice (some ⟨w.heap.size + 1, 0, none⟩) (ptrim zs).length (ds.length / 9 + 1))).cell? ⟨w.heap.size, 0, none⟩ = some (.bool neg) := by
        rw [World.cell?_setCell_other _ _ _ _ (by intro h; simp at h)]
        exact World.cell?_setCell_same _ _ _ c0
      have g1 : ((wr.setCell ⟨w.heap.size, 0, none⟩ (.bool neg)).setCell ⟨w.heap.size, 1, none⟩ (.slice (some ⟨w.heap.size + 1, 0, none⟩) (ptrim zs).length (ds.length / 9 + 1))).cell? ⟨w.heap.size, 1, none⟩ = some (.slice (some ⟨w.heap.size + 1, 0, none⟩) (ptrim zs).length (ds.length / 9 + 1)) := by
        exact World.cell?_setCell_same _ _ _ ((World.cell?_setCell_other _ _ _ _ (by intro h; simp at h)).trans c1)
      rw [hdone.out] at *
      exact bodyPost_ret (v := .agg #[.bool neg, .slice (some ⟨w.heap.size + 1, 0, none⟩) (pcs 1000000000 (dv ds)).length (ds.length / 9 + 1)]) (by simp [results, Tryz.results134, go_sem, g0, g1]) rfl ⟨_, rfl, hsf, hfin⟩
end Go.Proofs.Kl
namespace Go.Proofs.Kl
open Go.RowKit
/-- what an opened integer is: its sign and the pieces of its magnitude. -/
def Num (w : World) (v : Value) (n : Int) : Prop := ∃ m, v = .agg #[.bool (decide (n < 0)), m] ∧ Sl .u64 w m (pcs 1000000000 n.natAbs)
theorem Num.below {w w' : World} {v : Value} {n : Int} (h : Num w v n) (hb : Below w.heap.size w w') : Num w' v n := by
  obtain ⟨m, rfl, hs⟩ := h
  exact ⟨m, rfl, hs.below hb⟩
theorem open_itoa (n : Int) (w : World) (hl : Lib.nDigits n.natAbs ≤ 900000000) :
    Calls Tryz.prog 134 #[.string (tx (Lib.itoa n))] w fun e w' => ∃ v, e = .returned v ∧ Num w' v n ∧ Below w.heap.size w w' := by
  refine (open_digits (Lib.itoa n) (Lib.decDigits n.natAbs) (decide (n < 0)) w (decDigits_isD _) ?_ (trimMinus_itoa n) (hasMinus_itoa n)).mono ?_
  · rw [Lib.decDigits_length]; exact hl
  · rintro e w' ⟨v, rfl, hs, hb⟩
    rw [dv_decDigits] at hs
    exact ⟨_, rfl, ⟨_, rfl, hs⟩, hb⟩
end Go.Proofs.Kl
/- The builder of strings: what its three writing methods do (the shelf's contracts of these do not lie at this program: its copy check has no text of a panic). -/
namespace Go.Proofs.Kl
open Go.RowKit Go.Shelf

theorem bsize : (Tryz.prog.info? 202).map (·.size) = some 2 := by kernel_rfl
theorem blies : liesAt Tryz.prog Tryz.prog.depth 202 (2 / Tryz.prog.cellsOf 202) 0 202 1 = true := by kernel_rfl
theorem info5 : (Tryz.prog.info? 5).map (fun i => (i.zero, i.size, i.bytes)) = some (some (.int .u8 0), 1, 1) := by kernel_rfl

set_option maxHeartbeats 1000000 in
set_option maxRecDepth 100000 in
theorem bld_copyCheck_used (b : Nat) (w : World) (h0 : w.cell? ⟨b, 0, none⟩ = some (.pointer (some ⟨b, 0, none⟩))) :
    Calls Tryz.prog 193 #[.pointer (some ⟨b, 0, none⟩)] w fun e w' => e = .returned (.tuple #[]) ∧ w' = w := by
  obtain ⟨j, hj, _⟩ := Option.map_eq_some_iff.1 bsize
  go_enter Tryz.func193, Tryz.ntmps193
  go_wp2
  rw [Lib.run_neq_ptr_same w _ Tryz.underlying199 hj]
  go_wp2
  go_end0
  exact ⟨rfl, rfl⟩

set_option maxHeartbeats 1000000 in
set_option maxRecDepth 100000 in
theorem bld_copyCheck_fresh (b : Nat) (w : World) (h0 : w.cell? ⟨b, 0, none⟩ = some (.pointer none)) (hsh : w.shape? b = some (202, 2)) (hfz : w.frozen? ⟨b, 0, none⟩ = false) :
    Calls Tryz.prog 193 #[.pointer (some ⟨b, 0, none⟩)] w fun e w' => e = .returned (.tuple #[]) ∧ w' = w.setCell ⟨b, 0, none⟩ (.pointer (some ⟨b, 0, none⟩)) := by
  obtain ⟨j, hj, hjs⟩ := Option.map_eq_some_iff.1 bsize
  go_enter Tryz.func193, Tryz.ntmps193
  go_wp2
  rw [Lib.run_to_unsafe w ⟨b, 0, none⟩ Tryz.underlying199 Tryz.underlying227 hj (by rw [hjs]; decide) hsh (Nat.zero_lt_succ 1)]
  simp only [Result.andThen]
  rw [Oper.upon_value]
  go_wp2
  rw [run_callFunc_extern Tryz.func209 (by kernel_rfl) (by kernel_rfl) (by kernel_rfl) (e := Extern.AbiNoEscape.same) (by kernel_rfl)]
  rw [Lib.run_noEscape]
  simp only [Result.andThen]
  rw [Oper.upon_value]
  go_wp2
  rw [Lib.run_from_unsafe w ⟨b, 0, none⟩ Tryz.underlying227 Tryz.underlying199 hj hsh blies]
  simp only [Result.andThen]
  rw [Oper.upon_value]
  go_wp2
  go_end0
  exact ⟨rfl, rfl⟩

/-- behind the check the builder has been used; its bytes are as they were. -/
theorem bld_copyCheck (B b : Nat) (bs : List Value) (w : World) (h : Lib.IsBuilderF 202 5 B b bs w) :
    Calls Tryz.prog 193 #[.pointer (some ⟨b, 0, none⟩)] w fun e w' => e = .returned (.tuple #[]) ∧ (Lib.BuilderAtF 202 5 B b (.pointer (some ⟨b, 0, none⟩)) bs w' ∧ Below B w w' ∧ Lib.OthersKept 5 (some b) w w') := by
  rcases h with h | h
  · refine (bld_copyCheck_fresh b w h.cell0 h.shape h.frozen0).mono ?_
    rintro e w' ⟨rfl, rfl⟩
    exact ⟨rfl, h.used _, (Below.refl B w).setCell (p := ⟨b, 0, none⟩) h.1 _, (Lib.OthersKept.refl _ _ w).setCell ⟨b, 0, none⟩ rfl _⟩
  · refine (bld_copyCheck_used b w h.cell0).mono ?_
    rintro e w' ⟨rfl, rfl⟩
    exact ⟨rfl, h, Below.refl B _, Lib.OthersKept.refl _ _ _⟩

set_option maxHeartbeats 2000000 in
set_option maxRecDepth 100000 in
theorem bld_WriteByte (B b : Nat) (bs : List Value) (c : Int) (w : World) (h : Lib.IsBuilderF 202 5 B b bs w) (hlen : bs.length + 1 ≤ 140737488355328) (hBw : B ≤ w.heap.size) :
    Calls Tryz.prog 172 #[.pointer (some ⟨b, 0, none⟩), .int .u8 c] w fun e w' => e = .returned .nilIface ∧ (Lib.BuilderAtF 202 5 B b (.pointer (some ⟨b, 0, none⟩)) (bs ++ [.int .u8 c]) w' ∧ Below B w w' ∧ Lib.OthersKept 5 (some b) w w') := by
  obtain ⟨i0, hi, hz0, hz1, hz2⟩ := info_parts info5
  go_enter Tryz.func172, Tryz.ntmps172
  go_wp2_with (go_at_call 193; refine (bld_copyCheck B b bs _ h).mono ?_)
  rintro e w1 ⟨rfl, h1, hb1, hk1⟩
  obtain ⟨hB, v, hbk, hown, hne⟩ := h1
  have c0 : w1.cell? ⟨b, 0, none⟩ = some (.pointer (some ⟨b, 0, none⟩)) := by rw [Lib.cell_of_heap hbk]; rfl
  have c1 : w1.cell? ⟨b, 1, none⟩ = some v := by rw [Lib.cell_of_heap hbk]; rfl
  go_wp2_with (at_builtin; refine wpList_append_ownF _ rfl _ _ 200 rfl B 5 i0 (.int .u8 0) 1 1 Tryz.underlying200 hi hz0 hz1 hz2 rfl (by decide) _ _ _ rfl (hown.alloc _) ⟨w1.heap.size, 0, none⟩ 1 1 [.int .u8 c] rfl rfl ?c1 ?c2 ?c3 ?c4 ?c5 ?_)
  case c1 =>
    intro j u hj
    match j, hj with
    | 0, hj => simp at hj; subst hj; simp [Addr.add]
  case c2 => intro u hu; simp at hu; subst hu; rfl
  case c3 => unfold maxLen; omega
  case c4 => omega
  case c5 => have := hb1.size; simp; omega
  intro v' w2 hown' hgrow _
  have hlt : b < w1.heap.size := by
    rcases Nat.lt_or_ge b w1.heap.size with h' | h'
    · exact h'
    · simp [Array.getElem?_eq_none h'] at hbk
  have hb2 : w2.heap[b]? = some (.cells #[.pointer (some ⟨b, 0, none⟩), v] 202 (0, 0)) := by
    rw [hgrow.block b (by simp; omega) (fun e => hne e.symm), Lib.alloc_old w1 _ b hlt]
    exact hbk
  have d0 : w2.cell? ⟨b, 0, none⟩ = some (.pointer (some ⟨b, 0, none⟩)) := by rw [Lib.cell_of_heap hb2]; rfl
  have d1 : w2.cell? ⟨b, 1, none⟩ = some v := by rw [Lib.cell_of_heap hb2]; rfl
  have f1 : w2.frozen? ⟨b, 1, none⟩ = false := Lib.frozen_of_heap hb2 1
  obtain ⟨g, cap, rfl⟩ : ∃ g cap, v' = .slice (some ⟨g, 0, none⟩) (bs.length + 1) cap := by
    rcases hown'.2 with ⟨_, h0⟩ | ⟨g, cap, cur, fz, hv, _⟩
    · omega
    · exact ⟨g, cap, hv⟩
  go_wp2
  go_ret
  refine ⟨rfl, ?_, ?_, ((hk1.alloc _).grown hgrow (Lib.ownsRowF_kind (hown.alloc _))).setCell ⟨b, 1, none⟩ rfl _⟩
  · exact Lib.BuilderAtF.put (T := 202) (e := 5) hB hb2 (bs' := bs ++ [.int .u8 c]) (by simpa using hown') (by decide)
  · exact ((hb1.alloc (by have := hb1.size; omega) _).grown hgrow (by have := hb1.size; simp; omega) (fun k hk => (hown.lt k hk).1)).setCell (p := ⟨b, 1, none⟩) hB _

set_option maxHeartbeats 2000000 in
set_option maxRecDepth 100000 in
theorem bld_WriteString (B b : Nat) (bs : List Value) (s : ByteArray) (w : World) (h : Lib.IsBuilderF 202 5 B b bs w) (hlen : bs.length + s.size ≤ 140737488355328) (hBw : B ≤ w.heap.size) :
    Calls Tryz.prog 174 #[.pointer (some ⟨b, 0, none⟩), .string s] w fun e w' => e = .returned (.tuple #[.int .i64 s.size, .nilIface]) ∧ (Lib.BuilderAtF 202 5 B b (.pointer (some ⟨b, 0, none⟩)) (bs ++ Lib.strCells s) w' ∧ Below B w w' ∧ Lib.OthersKept 5 (some b) w w') := by
  obtain ⟨i0, hi, hz0, hz1, hz2⟩ := info_parts info5
  go_enter Tryz.func174, Tryz.ntmps174
  go_wp2_with (go_at_call 193; refine (bld_copyCheck B b bs _ h).mono ?_)
  rintro e w1 ⟨rfl, h1, hb1, hk1⟩
  obtain ⟨hB, v, hbk, hown, hne⟩ := h1
  have c0 : w1.cell? ⟨b, 0, none⟩ = some (.pointer (some ⟨b, 0, none⟩)) := by rw [Lib.cell_of_heap hbk]; rfl
  have c1 : w1.cell? ⟨b, 1, none⟩ = some v := by rw [Lib.cell_of_heap hbk]; rfl
  go_wp2_with (at_builtin; refine Lib.wpList_append_own_stringF _ rfl _ _ 200 9 rfl B 5 i0 Tryz.underlying200 Tryz.underlying9 hi hz0 hz1 hz2 _ _ _ rfl hown s rfl ?c3 ?c4 ?c5 ?_)
  case c3 => unfold maxLen; omega
  case c4 => omega
  case c5 => have := hb1.size; omega
  intro v' w2 hown' hgrow _
  have hlt : b < w1.heap.size := by
    rcases Nat.lt_or_ge b w1.heap.size with h' | h'
    · exact h'
    · simp [Array.getElem?_eq_none h'] at hbk
  have hb2 : w2.heap[b]? = some (.cells #[.pointer (some ⟨b, 0, none⟩), v] 202 (0, 0)) := by
    rw [hgrow.block b hlt (fun e => hne e.symm)]
    exact hbk
  have d0 : w2.cell? ⟨b, 0, none⟩ = some (.pointer (some ⟨b, 0, none⟩)) := by rw [Lib.cell_of_heap hb2]; rfl
  have d1 : w2.cell? ⟨b, 1, none⟩ = some v := by rw [Lib.cell_of_heap hb2]; rfl
  have f1 : w2.frozen? ⟨b, 1, none⟩ = false := Lib.frozen_of_heap hb2 1
  obtain ⟨ao, n', cap, rfl⟩ : ∃ ao n' cap, v' = .slice ao n' cap := by
    rcases hown'.2 with ⟨hv, _⟩ | ⟨g, cap, cur, fz, hv, _⟩
    · exact ⟨_, _, _, hv⟩
    · exact ⟨_, _, _, hv⟩
  go_wp2
  go_ret2
  refine ⟨rfl, ?_, ?_, (hk1.grown hgrow (Lib.ownsRowF_kind hown)).setCell ⟨b, 1, none⟩ rfl _⟩
  · exact Lib.BuilderAtF.put (T := 202) (e := 5) hB hb2 (bs' := bs ++ Lib.strCells s) (by simpa [Lib.strCells_length] using hown') (by decide)
  · exact (hb1.grown hgrow (by have := hb1.size; omega) (fun k hk => (hown.lt k hk).1)).setCell (p := ⟨b, 1, none⟩) hB _
end Go.Proofs.Kl
/- strconv.FormatUint at base 10; strconv.Itoa with the frame. -/
namespace Go.Proofs.Kl
open Go.RowKit Go.Shelf Go.Sort

theorem holds_zero0 (w : World) (T : TypeId) (nd : Nat) (hs : nd ≤ 24) : Holds (fun (b : UInt8) => Value.int .u8 (b.toNat : Int)) (w.alloc (.cells Lib.zeros24 T)) w.heap.size 0 (Array.replicate nd (0 : UInt8)) := fun j hj => by
  have hj' : j < nd := by simpa using hj
  refine ⟨?_, World.frozen?_alloc_new _ _ _ _⟩
  rw [World.cell?_alloc_new, Lib.zeros24_at _ (by omega), getElem!_pos _ j hj]
  simp
theorem fin_pos0 (w : World) (o : Obj) (dk : Array UInt8) (k : Nat) : ∃ os, (putRow (fun (b : UInt8) => Value.int .u8 (b.toNat : Int)) (w.alloc o) w.heap.size 0 dk).drewN k = grow (w.drewN k) os := by
  rw [alloc_eq_grow]
  obtain ⟨os', _, e⟩ := putRow_grow_new (fun (b : UInt8) => Value.int .u8 (b.toNat : Int)) w #[o] w.heap.size 0 dk (Nat.le_refl _)
  exact ⟨os', by rw [e]; rfl⟩

set_option maxHeartbeats 6400000 in
set_option maxRecDepth 100000 in
theorem inner_FormatUint (u : Nat) (hu64 : u < 18446744073709551616) (w : World) (htab : Lib.TabIs Tryz.prog w "internal/strconv.uint64pow10" .u64 Lib.pow10Tab) :
    Calls Tryz.prog 194 #[.int .u64 u, .int .i64 10] w (Ret (.string (tx (Lib.decDigits u))) w) := by
  by_cases hs : u < 100
  · go_enter Tryz.func194, Tryz.ntmps194
    go_wp2_with (go_at_call 203; refine (Tryz.internal_strconv_small u hs _).mono ?_; rintro e w' ⟨rfl, rfl⟩)
    go_ret
    exact ⟨rfl, Below.refl _ _⟩
  · have hu1 : 1 ≤ u := by omega
    have hnd20 : Lib.nDigits u ≤ 20 := by have := Lib.numDigits_eq u hu1 hu64; split at this <;> omega
    have hal : Tryz.prog.arrayLen 220 = 24 := by simp [Program.arrayLen, Tryz.underlying220]
    have hsl1 : ∀ W, (Instr.sliceAt 220 (.pointer (some ⟨w.heap.size, 0, none⟩)) none (some (.int .i64 (Lib.nDigits u : Int))) none).run Tryz.prog W = .ok (.slice (some ⟨w.heap.size, 0, none⟩) (Lib.nDigits u) 24) W := fun W => by
      rw [run_sliceAt_array_h W 220 ⟨w.heap.size, 0, none⟩ (by simp [Program.arrayLen, Program.elem, Tryz.underlying220]) .i64 (Lib.nDigits u : Int) (by omega) (by rw [hal]; omega)]
      go_simp
    have hH0 := holds_zero0 w 220 (Lib.nDigits u) (by omega)
    have hfmt := Tryz.internal_strconv_formatBase10 w.heap.size 0 24 u (Array.replicate (Lib.nDigits u) 0) (w.alloc (.cells Lib.zeros24 220)) hH0 (by rw [Array.size_replicate]; exact Lib.lt_pow_nDigits u) hu64 (by rw [Array.size_replicate]; omega)
    rw [Array.size_replicate] at hfmt
    have HH0 := Lib.hid hH0
    clear hH0 hal
    go_enter Tryz.func194, Tryz.ntmps194
    go_wp2_with (first
      | (go_at_call 204; refine (Tryz.internal_strconv_numDigits u hu1 hu64 _ (Lib.tabIs_alloc htab _)).mono ?_; rintro e w' ⟨rfl, rfl⟩)
      | (go_at_call 205; refine hfmt.mono ?_))
    rintro e w' ⟨rfl, k, v', dk, rfl, hF⟩
    have hcv : (convert 200 9 (.slice (some ⟨w.heap.size, 0, none⟩) (Lib.nDigits u) 24)).run Tryz.prog ((putRow (fun (b : UInt8) => Value.int .u8 (b.toNat : Int)) (w.alloc (.cells Lib.zeros24 220)) w.heap.size 0 dk).drewN k) = .ok (.string ⟨(Lib.decDigits u).toArray⟩) ((putRow (fun (b : UInt8) => Value.int .u8 (b.toNat : Int)) (w.alloc (.cells Lib.zeros24 220)) w.heap.size 0 dk).drewN k) := by
      have h := run_convert_bytes_back (P := Tryz.prog) ((putRow (fun (b : UInt8) => Value.int .u8 (b.toNat : Int)) (w.alloc (.cells Lib.zeros24 220)) w.heap.size 0 dk).drewN k) 200 9 5 ⟨w.heap.size, 0, none⟩ 24 (Lib.decDigits u) Tryz.underlying200 Tryz.underlying5 Tryz.underlying9 (fun j hj => by
        rw [Lib.row_is_numeral hF j hj, Lib.add_plain, World.cell?_drewN]
        exact cell?_putRow (fun (b : UInt8) => Value.int .u8 (b.toNat : Int)) _ w.heap.size 0 _ dk HH0.out (by rw [hF.size, Array.size_replicate]) j (by rw [hF.size]; rw [Lib.decDigits_length] at hj; exact hj))
      rw [Lib.decDigits_length] at h
      exact h
    go_wp2
    go_ret
    obtain ⟨os, eo⟩ := fin_pos0 w (.cells Lib.zeros24 220) dk k
    exact ⟨rfl, by rw [eo]; exact below_grow w k os⟩

set_option maxRecDepth 100000 in
theorem FormatUint_10 (u : Nat) (hu64 : u < 18446744073709551616) (w : World) (htab : Lib.TabIs Tryz.prog w "internal/strconv.uint64pow10" .u64 Lib.pow10Tab) :
    Calls Tryz.prog 173 #[.int .u64 u, .int .i64 10] w (Ret (.string (tx (Lib.decDigits u))) w) := by
  go_enter Tryz.func173, Tryz.ntmps173
  go_wp2_with (go_at_call 194; refine (inner_FormatUint u hu64 _ htab).mono ?_; rintro e w' ⟨rfl, hb⟩)
  go_ret
  exact ⟨rfl, hb⟩

theorem Itoa_any (n : Int) (h0 : -9223372036854775808 ≤ n) (h1 : n ≤ 9223372036854775807) (w : World) (hE : Env w) :
    Calls Tryz.prog 131 #[.int .i64 n] w (Ret (.string (tx (Lib.itoa n))) w) := by
  refine (Tryz.strconv_Itoa n h0 h1 w hE.tab).mono ?_
  rintro e w' ⟨rfl, k, os, rfl⟩
  exact ⟨rfl, below_grow w k os⟩
end Go.Proofs.Kl
/- integer.close: the text of a sign and pieces. -/
namespace Go.Proofs.Kl
open Go.RowKit Go.Shelf
attribute [local go_sem] Oper.semAt_some

/-- what has been written when some rounds are over. -/
def ctx (n : Nat) (pre : List (Bk n)) : List UInt8 := pre.foldl (fun t x => t ++ ((if x.1.1 + 1 < n then List.replicate (9 - (Lib.decDigits x.1.2).length) 48 else []) ++ Lib.decDigits x.1.2)) []
theorem ctx_snoc (n : Nat) (pre : List (Bk n)) (x : Bk n) : ctx n (pre ++ [x]) = ctx n pre ++ ((if x.1.1 + 1 < n then List.replicate (9 - (Lib.decDigits x.1.2).length) 48 else []) ++ Lib.decDigits x.1.2) := by simp [ctx]
theorem digits9 {v : Nat} (h : v < 1000000000) : (Lib.decDigits v).length ≤ 9 := by
  rw [Lib.decDigits_length, nDigits_le (by omega)]; exact h
theorem ctx_len (n : Nat) (pre : List (Bk n)) : (ctx n pre).length ≤ 9 * pre.length := by
  have key : ∀ (m : Nat) (pre : List (Bk n)), pre.length = m → (ctx n pre).length ≤ 9 * pre.length := by
    intro m
    induction m with
    | zero => intro pre h; rw [List.eq_nil_of_length_eq_zero h]; simp [ctx]
    | succ m ih =>
      intro pre h
      rcases List.eq_nil_or_concat pre with e | ⟨r, x, e⟩
      · subst e; simp at h
      · rw [List.concat_eq_append] at e; subst e
        have h1 := ih r (by simpa using h)
        have h2 := digits9 x.2.2
        rw [ctx_snoc]
        simp only [List.length_append, List.length_cons, List.length_nil]
        split <;> simp <;> omega
  exact key _ pre rfl
theorem ctx_at {zs : List Nat} (hz0 : 0 < zs.length ∧ Bel 1000000000 zs) (hg : Good 1000000000 zs) : ∀ k, 0 < k → k ≤ zs.length → ctx zs.length (upto (bks zs hz0) k) = Lib.decDigits (pv 1000000000 (zs.drop (zs.length - k))) := by
  intro k
  induction k with
  | zero => intro h; omega
  | succ k ih =>
    intro _ hk
    have hs : ctx zs.length (upto (bks zs hz0) k ++ [bks zs hz0 k]) = ctx zs.length (upto (bks zs hz0) k) ++ ((if zs.length - 1 - k + 1 < zs.length then List.replicate (9 - (Lib.decDigits (zs.getD (zs.length - 1 - k) 0)).length) 48 else []) ++ Lib.decDigits (zs.getD (zs.length - 1 - k) 0)) := ctx_snoc _ _ _
    rw [upto_succ, hs]
    clear hs
    by_cases h0 : k = 0
    · subst h0
      rw [if_neg (by omega), close_top (zs.length - (0 + 1)) (by omega)]
      simp [upto, ctx]
    · rw [ih (by omega) (by omega), if_pos (by omega)]
      have := close_step (k := 9) (by decide) (p := zs) hg (m := zs.length - (k + 1)) (by omega)
      rw [show zs.length - (k + 1) + 1 = zs.length - k by omega] at this
      rw [show zs.length - 1 - k = zs.length - (k + 1) by omega]
      exact this.symm

theorem strCells_tx (l : List UInt8) : Lib.strCells (tx l) = Lib.byteCells l := by
  simp [Lib.strCells, Lib.byteCells]
theorem byteCells_append (l m : List UInt8) : Lib.byteCells l ++ Lib.byteCells m = Lib.byteCells (l ++ m) := by
  simp [Lib.byteCells]

/-- the builder and the number's box stand. -/
structure Cl (n0 : Nat) (neg : Bool) (A : Option Addr) (len c : Nat) (t : List UInt8) (W : World) : Prop where
  box : W.heap[n0]? = some (.cells #[.bool neg, .slice A len c] 159 (0, 0))
  bld : Lib.IsBuilderF 202 5 n0 (n0 + 1) (Lib.byteCells t) W
theorem blk_hr {W : World} {b : Nat} {cs : Array Value} {t : TypeId} {fr : Nat × Nat} {row : Option Nat} (h : W.heap[b]? = some (.cells cs t fr)) (hr : ∀ r, row = some r → ∃ o : Obj, W.heap[r]? = some o ∧ o.isCells = false) : some b ≠ row := fun e => by
  obtain ⟨o, h1, h2⟩ := hr b e.symm
  rw [h] at h1; injection h1 with h1; subst h1; simp [Obj.isCells] at h2
theorem bld_kept {T : TypeId} {B b : Nat} {bs : List Value} {W W' : World} {row : Option Nat} (h : Lib.IsBuilderF T 5 B b bs W) (hg : W.grownBy W' row) (hr : ∀ r, row = some r → ∃ o : Obj, W.heap[r]? = some o ∧ o.isCells = false) : Lib.IsBuilderF T 5 B b bs W' := by
  have key : ∀ p, Lib.BuilderAtF T 5 B b p bs W → Lib.BuilderAtF T 5 B b p bs W' := by
    rintro p ⟨hB, v, hb, hown, hne⟩
    refine ⟨hB, v, (hg.block b (Array.getElem?_eq_some_iff.1 hb).1 (blk_hr hb hr)).trans hb, hown.kept hg ?_, hne⟩
    rcases hown.2 with ⟨rfl, _⟩ | ⟨g, cap, cur, fz, rfl, _, hg', _⟩
    · left; rfl
    · right; exact blk_hr hg' hr
  exact h.elim (fun h => .inl (key _ h)) (fun h => .inr (key _ h))
theorem Cl.kept {n0 : Nat} {neg : Bool} {A : Option Addr} {len c : Nat} {t : List UInt8} {W W' : World} {row : Option Nat} (h : Cl n0 neg A len c t W) (hg : W.grownBy W' row) (hr : ∀ r, row = some r → ∃ o : Obj, W.heap[r]? = some o ∧ o.isCells = false) : Cl n0 neg A len c t W' :=
  ⟨(hg.block n0 (Array.getElem?_eq_some_iff.1 h.box).1 (blk_hr h.box hr)).trans h.box, bld_kept h.bld hg hr⟩
theorem bld_below {T : TypeId} {B b : Nat} {bs : List Value} {W W' : World} (h : Lib.IsBuilderF T 5 B b bs W) (hb : Below W.heap.size W W') : Lib.IsBuilderF T 5 B b bs W' :=
  bld_kept (row := none) h ⟨hb.os, hb.tape, hb.output, hb.size, fun i hi _ => hb.block i hi⟩ (fun _ e => by cases e)
theorem Cl.below {n0 : Nat} {neg : Bool} {A : Option Addr} {len c : Nat} {t : List UInt8} {W W' : World} (h : Cl n0 neg A len c t W) (hb : Below W.heap.size W W') : Cl n0 neg A len c t W' :=
  h.kept (row := none) ⟨hb.os, hb.tape, hb.output, hb.size, fun i hi _ => hb.block i hi⟩ (fun _ e => by cases e)
theorem Cl.cells {n0 : Nat} {neg : Bool} {A : Option Addr} {len c : Nat} {t : List UInt8} {W : World} (h : Cl n0 neg A len c t W) : W.cell? ⟨n0, 0, none⟩ = some (.bool neg) ∧ W.cell? ⟨n0, 1, none⟩ = some (.slice A len c) := by
  constructor <;> (rw [Lib.cell_of_heap h.box]; rfl)
/-- a write leaves the box, and the builder with more bytes. -/
theorem Cl.wrote {n0 : Nat} {neg : Bool} {A : Option Addr} {len c : Nat} {t t' : List UInt8} {W W' : World} (h : Cl n0 neg A len c t W) (hb : Lib.BuilderAtF 202 5 n0 (n0 + 1) (.pointer (some ⟨n0 + 1, 0, none⟩)) (Lib.byteCells t') W') (ho : Lib.OthersKept 5 (some (n0 + 1)) W W') : Cl n0 neg A len c t' W' :=
  ⟨ho _ _ h.box (by simp) (by intro c fz e; injection e with _ e2 _; cases e2), .inr hb⟩
theorem keepsFrom_of_others {B b : Nat} {W W' : World} (hs : W.heap.size ≤ W'.heap.size) (ho : Lib.OthersKept 5 (some b) W W') (hb : ∃ cs t fr, W.heap[b]? = some (.cells cs t fr)) : KeepsFrom B W W' :=
  ⟨hs, fun k o _ hk hc => ho k o hk (by intro e; injection e with e; subst e; obtain ⟨cs, t, fr, h⟩ := hb; rw [hk] at h; injection h with h; subst h; simp [Obj.isCells] at hc) (by intro c fz e; subst e; simp [Obj.isCells] at hc)⟩
theorem Cl.bblk {n0 : Nat} {neg : Bool} {A : Option Addr} {len c : Nat} {t : List UInt8} {W : World} (h : Cl n0 neg A len c t W) : ∃ cs t fr, W.heap[n0 + 1]? = some (.cells cs t fr) := by
  rcases h.bld with ⟨_, v, hb, _⟩ | ⟨_, v, hb, _⟩
  · exact ⟨_, _, _, hb⟩
  · exact ⟨_, _, _, hb⟩
theorem KB_of_others {n0 Bs : Nat} {W W' : World} (hb : Below n0 W W') (ho : Lib.OthersKept 5 (some (n0 + 1)) W W') (hne : Bs ≠ n0 + 1) : KB n0 Bs W W' :=
  ⟨hb, fun v hv => ho Bs _ hv (by simp [hne]) (by intro c fz e; injection e with _ e2 _; cases e2)⟩
theorem KB_of_below {n0 Bs : Nat} {W W' : World} (hb : Below W.heap.size W W') (hn : n0 ≤ W.heap.size) : KB n0 Bs W W' := ⟨hb.mono hn, fun _ hv => hv.below hb⟩
theorem keepsFrom_of_below {B : Nat} {W W' : World} (hb : Below W.heap.size W W') : KeepsFrom B W W' :=
  ⟨hb.size, fun k _ _ hk _ => (hb.block k (Array.getElem?_eq_some_iff.1 hk).1).trans hk⟩
theorem zeros9 {k : Nat} (h : k ≤ 9) : (ByteArray.mk #[48, 48, 48, 48, 48, 48, 48, 48, 48]).extract k 9 = tx (List.replicate (9 - k) 48) := by
  match k, h with
  | 0, _ => rfl
  | 1, _ => rfl
  | 2, _ => rfl
  | 3, _ => rfl
  | 4, _ => rfl
  | 5, _ => rfl
  | 6, _ => rfl
  | 7, _ => rfl
  | 8, _ => rfl
  | 9, _ => rfl

set_option maxRecDepth 100000 in
theorem close_zero (neg : Bool) (A : Option Addr) (c : Nat) (w : World) :
    Calls Tryz.prog 136 #[.agg #[.bool neg, .slice A 0 c]] w (Ret (.string (tx [48])) w) := by
  go_enter Tryz.func136, Tryz.ntmps136
  go_wp2
  go_ret
  exact ⟨rfl, (Below.refl _ _).alloc (Nat.le_refl _) _⟩
end Go.Proofs.Kl
namespace Go.Proofs.Kl
open Go.RowKit Go.Shelf
attribute [local go_sem] Oper.semAt_some
theorem callsIn_round {l n : Nat} {P : Program} {f : FuncId} {args : Array Value} {w : World} {Q : Ending → World → Prop} (h : Calls P f args w Q) : CallsIn (Fence.wide.inRound l) n P f args w Q :=
  (callsIn_wide.2 h : CallsIn Fence.wide n P f args w Q)
theorem Cl.writes {n0 : Nat} {neg : Bool} {A : Option Addr} {len c : Nat} {t : List UInt8} {W : World} (h : Cl n0 neg A len c t W) (s : List UInt8) (Bs B : Nat) (hBs : Bs ≠ n0 + 1) (hsz : n0 + 2 ≤ W.heap.size) (hl : t.length + s.length ≤ 140737488355328) :
    Calls Tryz.prog 174 #[.pointer (some ⟨n0 + 1, 0, none⟩), .string (tx s)] W fun e W' => (∃ x, e = .returned (.tuple #[x, .nilIface])) ∧ Cl n0 neg A len c (t ++ s) W' ∧ Below n0 W W' ∧ KB n0 Bs W W' ∧ KeepsFrom B W W' ∧ n0 + 2 ≤ W'.heap.size := by
  refine (bld_WriteString n0 (n0 + 1) (Lib.byteCells t) (tx s) W h.bld (by rw [Lib.byteCells_length]; exact hl) (by omega)).mono ?_
  rintro e W' ⟨rfl, hb, hbel, ho⟩
  rw [strCells_tx, byteCells_append] at hb
  exact ⟨⟨_, rfl⟩, h.wrote hb ho, hbel, KB_of_others hbel ho hBs, keepsFrom_of_others hbel.size ho h.bblk, Nat.le_trans hsz hbel.size⟩
set_option maxHeartbeats 4000000 in
set_option maxRecDepth 100000 in
theorem close_pos (neg : Bool) (zs : List Nat) (A : Option Addr) (c : Nat) (w : World) (hE : Env w) (hg : Good 1000000000 zs) (hne : zs ≠ []) (hl : zs.length ≤ 1000000000) (hs : Sl .u64 w (.slice A zs.length c) zs) :
    Calls Tryz.prog 136 #[.agg #[.bool neg, .slice A zs.length c]] w (Ret (.string (tx ((if neg then [45] else []) ++ Lib.decDigits (pv 1000000000 zs)))) w) := by
  obtain ⟨A', c', e', hc1, hc2, rb⟩ := id hs
  injection e' with e1 e2 e3
  subst e1 e3
  clear e2
  obtain ⟨bd, od, rfl, hcd⟩ := rb hne
  have hlen : 0 < zs.length := List.length_pos_iff.2 hne
  have hz0 : 0 < zs.length ∧ Bel 1000000000 zs := ⟨hlen, hg.bel⟩
  have hbd : bd < w.heap.size := World.block_lt_of_cell? w _ (hcd 0 hlen)
  have HG := Lib.hid hg
  have HC := Lib.hid hcd
  have HE := Lib.hid hE
  have HL := Lib.hid hl
  have HN := Lib.hid hne
  clear hs rb hg hcd hE hl hne
  refine (callsIn_wide (n := 5)).1 ?_
  refine callsIn_of_wp_marks Tryz.func136 rfl trivial ?_ rfl
  simp only [Tryz.ntmps136, List.size_toArray, List.length_cons, List.length_nil, Nat.reduceAdd, Nat.reduceSub, Array.replicate_succ, Array.replicate_zero, List.push_toArray, List.append_toArray, List.nil_append, List.cons_append]
  have hn0 : ¬ ((zs.length : Int) = 0) := by omega
  generalize hW1 : (w.alloc (.cells #[.bool neg, .slice (some ⟨bd, od, none⟩) zs.length c] 159)).alloc (.cells #[.pointer none, .slice none 0 0] 202) = W1
  have hCl : Cl w.heap.size neg (some ⟨bd, od, none⟩) zs.length c [] W1 := by
    subst hW1
    refine ⟨(halloc_old _ _ _ (by simp)).trans (World.alloc_heap_new w _), .inl ⟨by simp, _, ?_, World.ownsRowF_nil _ _ _ _, by simp [Value.ownBlock]⟩⟩
    have := World.alloc_heap_new (w.alloc (.cells #[.bool neg, .slice (some ⟨bd, od, none⟩) zs.length c] 159)) (.cells #[.pointer none, .slice none 0 0] 202)
    simpa using this
  have hB1 : Below w.heap.size w W1 := by subst hW1; exact ((Below.refl _ _).alloc (Nat.le_refl _) _).alloc (by simp) _
  have hZ1 : w.heap.size + 2 ≤ W1.heap.size := by subst hW1; simp
  obtain ⟨hc0, hc1'⟩ := hCl.cells
  have HCl := Lib.hid hCl
  obtain ⟨sg, hsg⟩ : ∃ sg : List UInt8, sg = (if neg then [45] else []) := ⟨_, rfl⟩
  rw [← hsg]
  obtain ⟨ng, hng⟩ : ∃ ng : Bool, ng = neg := ⟨_, rfl⟩
  have HSG := Lib.hid hsg
  have HSL := Lib.hid (show sg.length ≤ 1 from by rw [hsg]; split <;> simp)
  have HNG := Lib.hid hng
  clear hsg hng hCl
  cases neg
  case' false =>
    gi_wp2_with (first
      | (refine ⟨trivial, ?_⟩; gi_at_call 170; refine (back_in Fence.wide _ trivial rfl _ _ _ _).mono ?_; rintro e w' ⟨rfl, rfl⟩))
    have hclA : Cl w.heap.size ng (some ⟨bd, od, none⟩) zs.length c sg W1 := by
      have h1 := HSG.out
      have h2 := HNG.out
      simp at h1
      rw [h1, h2]; exact HCl.out
    clear HSG HNG HCl hc0 hc1' hW1
    generalize W1 = W2 at *
    rename_i K hK
    have HK := Lib.hid hK
    clear hK
  case' true =>
    gi_wp2_with (first
      | (refine ⟨trivial, ?_⟩; gi_at_call 172; refine (callsIn_wide.2 (bld_WriteByte w.heap.size (w.heap.size + 1) [] 45 _ HCl.out.bld (by simp) (by omega))).mono ?_; rintro e w2 ⟨rfl, hbd2, hb2, ho2⟩; have hCl2 := HCl.out.wrote (t' := [45]) hbd2 ho2; obtain ⟨hd0, hd1⟩ := hCl2.cells)
      | (refine ⟨trivial, ?_⟩; gi_at_call 170; refine (back_in Fence.wide _ trivial rfl _ _ _ _).mono ?_; rintro e w' ⟨rfl, rfl⟩))
    have hclA : Cl w.heap.size ng (some ⟨bd, od, none⟩) zs.length c sg w2 := by
      have h1 := HSG.out
      have h2 := HNG.out
      simp at h1
      rw [h1, h2]; exact hCl2
    have hB2 := hB1.trans hb2
    have hZ2 : w.heap.size + 2 ≤ w2.heap.size := by have := hb2.size; omega
    clear HSG HNG HCl hc0 hc1' hbd2 hb2 ho2 hCl2 hd0 hd1 hB1 hZ1 hW1
    clear W1
    generalize w2 = W2 at *
    rename_i K hK
    have HK := Lib.hid hK
    clear hK
  all_goals
    have hBB : Below w.heap.size w W2 := by assumption
    have hZZ : w.heap.size + 2 ≤ W2.heap.size := by omega
    have bK := Boxed.new W2 157 (.slice (some ⟨bd, od, none⟩) zs.length c)
    have hcl5 := hclA.below ((Below.refl _ W2).alloc (Nat.le_refl _) (.cells #[.slice (some ⟨bd, od, none⟩) zs.length c] 157))
    have hb5 := hBB.alloc (by omega) (.cells #[.slice (some ⟨bd, od, none⟩) zs.length c] 157)
    have hz5 : (W2.alloc (.cells #[.slice (some ⟨bd, od, none⟩) zs.length c] 157)).heap.size = W2.heap.size + 1 := by simp
    generalize W2.alloc (.cells #[.slice (some ⟨bd, od, none⟩) zs.length c] 157) = W5 at *
    have HC5 := Lib.hid (HC.out.below (w1 := W5) ⟨hb5.os, hb5.tape, hb5.output, hb5.size, hb5.block⟩)
    refine wpIn_rangeFunc_ownG rfl (by decide) (gf := 192) (lb := #[.pointer (some ⟨W2.heap.size, 0, none⟩)]) rfl trivial (enters_of Tryz.func192 (by kernel_rfl) rfl)
      (back_stops Fence.wide _ trivial rfl (by decide) W2.heap.size w.heap.size bd od c zs hc2 W5 hbd bK HC5.out hz0) KB.trans (KB.putObj (by omega)) (Below.refl _ _) (fun _ => rfl)
      (fun pre W => Cl w.heap.size ng (some ⟨bd, od, none⟩) zs.length c (sg ++ ctx zs.length pre) W ∧ Below w.heap.size w W)
      (fun _ _ _ => False)
      (OwnFrom.and (Own.from (fun s A B row hs hg hr => hs.kept hg hr) _) (ownFrom_below (Nat.le_refl _) (by omega)))
      (fun _ _ _ _ _ hs _ _ => hs)
      ⟨by simpa [ctx] using hcl5, hb5⟩
      ?_ ?assign ?body ?done ?stop
    case assign =>
      intro l x W K hK
      gi_wp2
      exact hK
    case stop =>
      rintro D c pre W _ _ h _
      exact h.elim
    case body =>
      rintro l pre ⟨⟨i, v⟩, hi1, hi2⟩ W ⟨hC, hB⟩ hpl
      have HSN := Lib.hid (ctx_snoc zs.length pre ⟨(i, v), hi1, hi2⟩)
      have hcl := ctx_len zs.length pre
      have HLE := Lib.hid (show (ctx zs.length pre).length ≤ 9000000000 from by have := HL.out; omega)
      clear hcl hpl
      dsimp only at hi1 hi2 ⊢
      obtain ⟨f1, f2⟩ := hC.cells
      have hsz : w.heap.size + 2 ≤ W.heap.size := by obtain ⟨_, _, _, hx⟩ := hC.bblk; have := (Array.getElem?_eq_some_iff.1 hx).1; omega
      have hd9 := digits9 hi2
      have HD9 := Lib.hid hd9
      gi_wp2_with fail
      refine ⟨trivial, ?_⟩
      refine (callsIn_round (FormatUint_10 v (by omega) W (HE.out.below hB).tab)).mono ?_
      rintro e w3 ⟨rfl, hb3⟩
      have hC3 := hC.below hb3
      have hB3 := below_trans hB hb3
      have hk3 := KB_of_below (n0 := w.heap.size) (Bs := W2.heap.size) hb3 (by omega)
      have hf3 := keepsFrom_of_below (B := W5.heap.size) hb3
      have hsz3 : w.heap.size + 2 ≤ w3.heap.size := Nat.le_trans hsz hb3.size
      clear hb3 hC hB f1 f2
      obtain ⟨f1, f2⟩ := hC3.cells
      by_cases hlast : i + 1 < zs.length
      · have hlt : (i : Int) < (zs.length : Int) - 1 := by omega
        gi_wp2_with fail
        rw [zeros9 HD9.out]
        refine ⟨trivial, ?_⟩
        refine (callsIn_round (hC3.writes (List.replicate (9 - (Lib.decDigits v).length) 48) W2.heap.size W5.heap.size (by omega) hsz3 (by have := HLE.out; have := HSL.out; simp; omega))).mono ?_
        rintro e w4 ⟨⟨x4, rfl⟩, hC4, hB4, hk4, hf4, hsz4⟩
        have hB4' := hB3.trans hB4
        have hk4' := hk3.trans hk4
        have hf4' := hf3.trans hf4
        clear hB4 hk4 hf4 hB3 hk3 hf3 hC3 f1 f2
        gi_wp2_with fail
        refine ⟨trivial, ?_⟩
        refine (callsIn_round (hC4.writes (Lib.decDigits v) W2.heap.size W5.heap.size (by omega) hsz4 (by have := HLE.out; have := HSL.out; have := HD9.out; simp; omega))).mono ?_
        rintro e w5 ⟨⟨x5, rfl⟩, hC5, hB5, hk5, hf5, hsz5⟩
        have hB5' := hB4'.trans hB5
        have hk5' := hk4'.trans hk5
        have hf5' := hf4'.trans hf5
        clear hB5 hk5 hf5 hB4' hk4' hf4' hC4
        have hC6 : Cl w.heap.size ng (some ⟨bd, od, none⟩) zs.length c (sg ++ ctx zs.length (pre ++ [⟨(i, v), hi1, hi2⟩])) w5 := by
          rw [HSN.out, if_pos hlast]
          simpa [List.append_assoc] using hC5
        gi_wp2_with fail
        exact ⟨hf5', hk5', hC6, hB5'⟩
      · have hlt : ¬ (i : Int) < (zs.length : Int) - 1 := by omega
        gi_wp2_with fail
        refine ⟨trivial, ?_⟩
        refine (callsIn_round (hC3.writes (Lib.decDigits v) W2.heap.size W5.heap.size (by omega) hsz3 (by have := HLE.out; have := HSL.out; have := HD9.out; simp; omega))).mono ?_
        rintro e w5 ⟨⟨x5, rfl⟩, hC5, hB5, hk5, hf5, hsz5⟩
        have hB5' := hB3.trans hB5
        have hk5' := hk3.trans hk5
        have hf5' := hf3.trans hf5
        clear hB5 hk5 hf5 hB3 hk3 hf3 hC3
        have hC6 : Cl w.heap.size ng (some ⟨bd, od, none⟩) zs.length c (sg ++ ctx zs.length (pre ++ [⟨(i, v), hi1, hi2⟩])) w5 := by
          rw [HSN.out, if_neg hlast]
          simpa [List.append_assoc] using hC5
        gi_wp2_with fail
        exact ⟨hf5', hk5', hC6, hB5'⟩
    case done =>
      rintro D ys W hD rfl ⟨hC, hB⟩ hK
      rw [ctx_at hz0 HG.out zs.length hlen (Nat.le_refl _), Nat.sub_self, List.drop_zero] at hC
      have hsz : w.heap.size + 2 ≤ W.heap.size := by obtain ⟨_, _, _, hx⟩ := hC.bblk; have := (Array.getElem?_eq_some_iff.1 hx).1; omega
      refine HK.out _ _ ?_
      gi_wp2_with fail
      refine ⟨trivial, ?_⟩
      refine (callsIn_wide.2 (Tryz.Builder_String_any_k w.heap.size (w.heap.size + 1) _ W hC.bld (by omega))).mono ?_
      rintro e w7 ⟨rfl, -, hB7, ho7⟩
      have r7 : w7.heap[D]? = some (.deferred (some [])) := ho7 D _ hK (by simp; omega) (by intro c fz e; cases e)
      gi_wp2_with fail
      refine ⟨by simp, .inl ⟨_, _, rfl, run_takeDeferred r7, ?_⟩⟩
      have hfin := (hB.trans hB7).trans (belowK_b (w := w) (Nat.le_refl _) w7 D _ (.deferred none) (by omega) r7 rfl rfl)
      refine ⟨_, ?_, ⟨rfl, hfin⟩⟩
      simp [results, Tryz.results136, go_sem]
end Go.Proofs.Kl
/- integer: quick, Of, Sign, Neg, Abs; close at an integer. -/
namespace Go.Proofs.Kl
open Go.RowKit Go.Shelf

theorem pcs_len {n k : Nat} (hk : 0 < k) (h : Lib.nDigits n ≤ 9 * k) : (pcs 1000000000 n).length ≤ k := by
  rw [pcs_length_le (by decide)]
  have := (nDigits_le (by omega)).1 h
  rwa [Nat.pow_mul] at this
theorem tx_inj {a b : List UInt8} (h : tx a = tx b) : a = b := by
  have := congrArg (fun x : ByteArray => x.data.toList) h
  simpa using this
theorem tx_ne {a b : List UInt8} (h : a ≠ b) : tx a ≠ tx b := fun e => h (tx_inj e)

/-- a magnitude with a sign. -/
def sgd (neg : Bool) (m : Nat) : Int := if neg then -(m : Int) else m
theorem close_num (neg : Bool) (m : Nat) (v : Value) (w : World) (hE : Env w) (hs : Sl .u64 w v (pcs 1000000000 m)) (hl : Lib.nDigits m ≤ 9000000000) :
    Calls Tryz.prog 136 #[.agg #[.bool neg, v]] w (Ret (.string (tx (Lib.itoa (sgd neg m)))) w) := by
  unfold sgd
  obtain ⟨A, c, rfl, h1⟩ := id hs
  by_cases hm : m = 0
  · subst hm
    have := close_zero neg A c w
    rw [show (if neg = true then -((0 : Nat) : Int) else ((0 : Nat) : Int)) = 0 by split <;> rfl, itoa_zero]
    rw [pcs_zero]
    exact this
  · have hne : pcs 1000000000 m ≠ [] := by
      intro e
      have := pv_pcs (B := 1000000000) (by decide) m
      rw [e] at this
      exact hm this.symm
    have := close_pos neg (pcs 1000000000 m) A c w hE (Good_pcs (by decide) m) hne (pcs_len (by decide) (by omega)) hs
    rw [pv_pcs (by decide)] at this
    have e : (if neg = true then [45] else []) ++ Lib.decDigits m = Lib.itoa (if neg then -(m : Int) else m) := by
      cases neg with
      | true => simp only [if_true]; rw [itoa_neg (by omega)]; simp
      | false => simp [itoa_ofNat]
    rw [e] at this
    exact this

set_option maxRecDepth 100000 in
theorem Of_any (n : Int) (h0 : -9223372036854775808 ≤ n) (h1 : n ≤ 9223372036854775807) (w : World) (hE : Env w) :
    Calls Tryz.prog 115 #[.int .i64 n] w (Ret (.string (tx (Lib.itoa n))) w) := by
  go_enter Tryz.func115, Tryz.ntmps115
  go_wp2_with (go_at_call 131; refine (Itoa_any n h0 h1 _ hE).mono ?_; rintro e w' ⟨rfl, hb⟩)
  go_ret
  exact ⟨rfl, hb⟩

/-- the sign of an integer. -/
def sgn (n : Int) : Int := if n = 0 then 0 else if n < 0 then -1 else 1
set_option maxRecDepth 100000 in
theorem Sign_itoa (n : Int) (w : World) : Calls Tryz.prog 112 #[.string (tx (Lib.itoa n))] w fun e w' => e = .returned (.int .i64 (sgn n)) ∧ w' = w := by
  by_cases h0 : n = 0
  · subst h0
    rw [itoa_zero]
    go_enter Tryz.func112, Tryz.ntmps112
    go_wp2
    go_ret
    exact ⟨rfl, rfl⟩
  · have hne : (Lib.itoa n == [48]) = false := beq_false_of_ne (fun e => h0 (itoa_inj (e.trans itoa_zero.symm)))
    have hm := hasMinus_itoa n
    by_cases hn : n < 0
    · rw [show sgn n = -1 by simp [sgn, h0, hn]]
      simp [hn] at hm
      go_enter Tryz.func112, Tryz.ntmps112
      go_wp2_with (go_at_call 151; refine (Tryz.strings_HasPrefix _ _ _).mono ?_; simp only; rw [hm]; rintro e w' ⟨rfl, rfl⟩)
      go_ret
      exact ⟨rfl, rfl⟩
    · rw [show sgn n = 1 by simp [sgn, h0, hn]]
      simp [hn] at hm
      go_enter Tryz.func112, Tryz.ntmps112
      go_wp2_with (go_at_call 151; refine (Tryz.strings_HasPrefix _ _ _).mono ?_; simp only; rw [hm]; rintro e w' ⟨rfl, rfl⟩)
      go_ret
      exact ⟨rfl, rfl⟩

theorem itoa_of_neg_nat {n : Int} (h : n < 0) : Lib.itoa n = 45 :: Lib.itoa (-n) := by
  rw [itoa_neg h, itoa_nonneg (by omega)]; congr 2; omega
theorem itoa_len (n : Int) : (Lib.itoa n).length ≤ Lib.nDigits n.natAbs + 1 := by
  unfold Lib.itoa; split
  · simp [Lib.decDigits_length]
  · rw [Lib.decDigits_length]; have : n.toNat = n.natAbs := by omega
    rw [this]; omega
set_option maxRecDepth 100000 in
theorem Neg_itoa (n : Int) (w : World) (hl : Lib.nDigits n.natAbs ≤ 900000000) : Calls Tryz.prog 113 #[.string (tx (Lib.itoa n))] w fun e w' => e = .returned (.string (tx (Lib.itoa (-n)))) ∧ w' = w := by
  by_cases h0 : n = 0
  · subst h0
    go_enter Tryz.func113, Tryz.ntmps113
    go_wp2_with (go_at_call 112; refine (Sign_itoa _ _).mono ?_; rintro e w' ⟨rfl, rfl⟩)
    go_ret
    exact ⟨rfl, rfl⟩
  · by_cases hn : n < 0
    · have hs : sgn n = -1 := by simp [sgn, h0, hn]
      have e := itoa_of_neg_nat hn
      have hlen := itoa_len n
      have hcut : (tx (45 :: Lib.itoa (-n))).extract 1 ((Lib.itoa (-n)).length + 1) = tx (Lib.itoa (-n)) := by
        rw [ByteArray.extract_mk]; simp
      rw [e] at hlen ⊢
      simp only [List.length_cons] at hlen
      go_enter Tryz.func113, Tryz.ntmps113
      go_wp2_with (go_at_call 112; rw [← e]; refine (Sign_itoa _ _).mono ?_; rw [hs, e]; rintro e w' ⟨rfl, rfl⟩)
      go_ret
      exact ⟨rfl, rfl⟩
    · have hs : sgn n = 1 := by simp [sgn, h0, hn]
      have hlen := itoa_len n
      have e : Lib.itoa (-n) = 45 :: Lib.itoa n := by rw [itoa_of_neg_nat (by omega)]; simp
      rw [e]
      go_enter Tryz.func113, Tryz.ntmps113
      go_wp2_with (go_at_call 112; refine (Sign_itoa _ _).mono ?_; rw [hs]; rintro e w' ⟨rfl, rfl⟩)
      go_ret
      exact ⟨rfl, rfl⟩
set_option maxRecDepth 100000 in
theorem Abs_itoa (n : Int) (w : World) : Calls Tryz.prog 176 #[.string (tx (Lib.itoa n))] w fun e w' => e = .returned (.string (tx (Lib.decDigits n.natAbs))) ∧ w' = w := by
  have h := trimMinus_itoa n
  go_enter Tryz.func176, Tryz.ntmps176
  go_wp2_with (go_at_call 155; refine (Tryz.strings_TrimPrefix _ _ _).mono ?_; simp only; rw [h]; rintro e w' ⟨rfl, rfl⟩)
  go_ret
  exact ⟨rfl, rfl⟩

set_option maxRecDepth 100000 in
theorem quick_long (n : Int) (k : Nat) (w : World) (hl : k < (Lib.itoa n).length) :
    Calls Tryz.prog 133 #[.string (tx (Lib.itoa n)), .int .i64 k] w fun e w' => e = .returned (.tuple #[.int .i64 0, .bool false]) ∧ w' = w := by
  have hlen := itoa_len n
  have hgt : (k : Int) < ((Lib.itoa n).length : Int) := by omega
  go_enter Tryz.func133, Tryz.ntmps133
  go_wp2
  go_ret2
  exact ⟨rfl, rfl⟩
set_option maxRecDepth 100000 in
theorem quick_short (n : Int) (k : Nat) (w : World) (hl : (Lib.itoa n).length ≤ k) (hk : k ≤ 18) :
    Calls Tryz.prog 133 #[.string (tx (Lib.itoa n)), .int .i64 k] w (Ret (.tuple #[.int .i64 n, .bool true]) w) := by
  have hgt : ¬ (k : Int) < ((Lib.itoa n).length : Int) := by omega
  have hb : n.natAbs < 10 ^ 18 := by
    have h1 : Lib.nDigits n.natAbs ≤ 18 := by
      rw [← Lib.decDigits_length]
      unfold Lib.itoa at hl
      split at hl
      · simp at hl; omega
      · have : n.toNat = n.natAbs := by omega
        rw [this] at hl; omega
    exact (nDigits_le (by decide)).1 h1
  have hp := atoiAll_itoa n (by omega) (by omega)
  go_enter Tryz.func133, Tryz.ntmps133
  go_wp2_with fail
  refine (Tryz.strconv_Atoi_ok (tx (Lib.itoa n)) (by show (Lib.itoa n).toArray.size ≤ _; simp; omega) n hp w).mono ?_
  rintro e w1 ⟨rfl, hw1⟩
  have hbw : Below w.heap.size w w1 := by
    rcases hw1 with rfl | ⟨t, rfl⟩
    · exact Below.refl _ _
    · exact below_bytesWorld _ _ _
  clear hw1
  go_wp2
  go_quiet (fail)
  go_wp2
  go_ret2
  exact ⟨rfl, below_drewN hbw _⟩
end Go.Proofs.Kl
