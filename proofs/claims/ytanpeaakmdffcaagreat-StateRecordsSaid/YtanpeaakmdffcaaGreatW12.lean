/- What functions of this program compute, a part: see the main text. No conditions. -/
import Derived.Test.YtanpeaakmdffcaaGreatW11
import Derived.Test.YtanpeaakmdffcaaGreatW10
import Derived.Shelf.Small.Strs
import Derived.Shelf.Strconv.Itoa0
import Derived.Shelf.Bits.Mul64
set_option linter.all false
set_option maxRecDepth 100000
namespace Go.Proofs
open Go.Shelf
def Tryz.lays106_ren : Go.Shelf.Ren := ⟨fun | 106 => 145 | 213 => 186 | 265 => 209 | n => n, fun | 9 => 9 | 3 => 3 | n => n, fun | n => n⟩
theorem Tryz.lays106 : Go.Proofs.Lays.n106 Tryz.prog Tryz.lays106_ren := {
  mixed := by kernel_rfl
  f106 := Tryz.func145.trans (congrArg some (by kernel_rfl))
  f213 := Tryz.func186.trans (congrArg some (by kernel_rfl))
  f265 := Tryz.func209.trans (congrArg some (by kernel_rfl))
  t3 := Tryz.underlying3
  a3 := Tryz.isAgg3
  z3 := Tryz.sizeOf3
  v3 := Tryz.zeroValue3
  t9 := Tryz.underlying9
  a9 := Tryz.isAgg9
  z9 := Tryz.sizeOf9
  v9 := Tryz.zeroValue9 }
open Go.RowKit in
theorem Tryz.strings_Compare (a b : ByteArray) (w : World) :
    Calls Tryz.prog 145 #[.string a, .string b] w fun e w' => e = .returned (.int .i64 (Lib.compareBytes a.data.toList b.data.toList)) ∧ w' = w := Any.strings_Compare Tryz.lays106 a b w
def Tryz.lays129_ren : Go.Shelf.Ren := ⟨fun | 129 => 165 | n => n, fun | 53 => 126 | 3 => 3 | 4 => 4 | 46 => 26 | 5 => 5 | 9 => 9 | n => n, fun | n => n⟩
theorem Tryz.lays129 : Go.Proofs.Lays.n129 Tryz.prog Tryz.lays129_ren := {
  mixed := by kernel_rfl
  f129 := Tryz.func165.trans (congrArg some (by kernel_rfl))
  t3 := Tryz.underlying3
  a3 := Tryz.isAgg3
  z3 := Tryz.sizeOf3
  v3 := Tryz.zeroValue3
  t4 := Tryz.underlying4
  a4 := Tryz.isAgg4
  z4 := Tryz.sizeOf4
  v4 := Tryz.zeroValue4
  t5 := Tryz.underlying5
  a5 := Tryz.isAgg5
  z5 := Tryz.sizeOf5
  v5 := Tryz.zeroValue5
  t9 := Tryz.underlying9
  a9 := Tryz.isAgg9
  z9 := Tryz.sizeOf9
  v9 := Tryz.zeroValue9
  t46 := Tryz.underlying26
  a46 := Tryz.isAgg26
  z46 := Tryz.sizeOf26
  v46 := Tryz.zeroValue26
  t53 := Tryz.underlying126
  a53 := Tryz.isAgg126
  z53 := Tryz.sizeOf126
  v53 := Tryz.zeroValue126 }
theorem Tryz.bits_Len64 (x : Int) (w : World) (h0 : 0 ≤ x) (h1 : x ≤ 18446744073709551615) :
    Calls Tryz.prog 165 #[.int .u64 x] w fun e w' => e = .returned (.int .i64 (Lib.bitLen x.toNat)) ∧ w' = w := Any.bits_Len64 Tryz.lays129 x w h0 h1
def Tryz.lays264_ren : Go.Shelf.Ren := ⟨fun | 264 => 170 | n => n, fun | 53 => 126 | 46 => 26 | n => n, fun | n => n⟩
theorem Tryz.lays264 : Go.Proofs.Lays.n264 Tryz.prog Tryz.lays264_ren := {
  mixed := by kernel_rfl
  f264 := Tryz.func170.trans (congrArg some (by kernel_rfl))
  t46 := Tryz.underlying26
  a46 := Tryz.isAgg26
  z46 := Tryz.sizeOf26
  v46 := Tryz.zeroValue26
  t53 := Tryz.underlying126
  a53 := Tryz.isAgg126
  z53 := Tryz.sizeOf126
  v53 := Tryz.zeroValue126 }
open Go.RowKit Go.Lib in
theorem Tryz.bits_Mul64 (x y : Nat) (hx : x < 18446744073709551616) (hy : y < 18446744073709551616) (w : World) :
    Calls Tryz.prog 170 #[.int .u64 x, .int .u64 y] w fun e w' => e = .returned (.tuple #[.int .u64 ((x * y / 18446744073709551616 : Nat) : Int), .int .u64 ((x * y % 18446744073709551616 : Nat) : Int)]) ∧ w' = w := Any.bits_Mul64 Tryz.lays264 x y hx hy w
end Go.Proofs
namespace Go.Am
open Go

theorem kds_len : ∀ {l : List AV} {ks : List Kd}, kds l = some ks → ∀ i, i < l.length → ∃ k, (l.getD i default).kd = some k := fun h => kds_mem h

/-- A library function of plain values that leaves the world as it is. -/
theorem pcalls_of_calls {P : Program} {f : FuncId} {args : List AV} {ks : List Kd} {r : AV} {v : Value} (hk : kds args = some ks) (he : ∀ a w, (callFunc f a).run P w = .ok (.enter f a) w) (hr : ∀ g, VR g r v)
    (h : ∀ w, Calls P f (args.map sval).toArray w fun e w' => e = .returned v ∧ w' = w) : PCalls P f args r := fun σ =>
  { ent := he
    run := fun g w vs hs ha => by
      have : vs = (args.map sval).toArray := by
        refine Array.ext (by simpa using ha.1) fun i h1 h2 => ?_
        have hi : i < args.length := by simpa using h2
        obtain ⟨k, hk'⟩ := kds_mem hk i hi
        have h3 := VR_sval (ha.2 i hi) hk'
        simp only [List.getD, Array.getElem?_toList, h1, Array.getElem?_eq_getElem, List.getElem?_eq_getElem hi, Option.getD_some] at h3
        simpa using h3
      subst this
      refine (h w).mono ?_
      rintro e w' ⟨rfl, rfl⟩
      exact ⟨r, σ, g, v, rfl, hr g, ⟨hs, Gh.le.refl g, Nums.refl _ _, FrameC.refl _ _ _, Old.refl _ _⟩, rfl, rfl⟩ }

theorem c165 (n : Int) (h0 : 0 ≤ n) (h1 : n ≤ 18446744073709551615) : PCalls Go.Proofs.Tryz.prog 165 [.int .u64 n] (.int .i64 (Lib.bitLen n.toNat)) :=
  pcalls_of_calls (v := .int .i64 (Lib.bitLen n.toNat)) rfl Go.Proofs.Tryz.call165 (fun _ => .int _ _) fun w => Go.Proofs.Tryz.bits_Len64 n w h0 h1
theorem c170 (x y : Nat) (hx : x < 18446744073709551616) (hy : y < 18446744073709551616) : PCalls Go.Proofs.Tryz.prog 170 [.int .u64 x, .int .u64 y] (.tuple [.int .u64 ((x * y / 18446744073709551616 : Nat) : Int), .int .u64 ((x * y % 18446744073709551616 : Nat) : Int)]) :=
  pcalls_of_calls (v := .tuple #[.int .u64 ((x * y / 18446744073709551616 : Nat) : Int), .int .u64 ((x * y % 18446744073709551616 : Nat) : Int)]) rfl Go.Proofs.Tryz.call170
    (fun _ => .tuple _ _ rfl fun i hi => by
      match i, hi with
      | 0, _ => exact .int _ _
      | 1, _ => exact .int _ _
      | i + 2, hi => exact absurd hi (by simp)) fun w => Go.Proofs.Tryz.bits_Mul64 x y hx hy w
theorem c145 (a b : List UInt8) : PCalls Go.Proofs.Tryz.prog 145 [.str a, .str b] (.int .i64 (Lib.compareBytes a b)) :=
  pcalls_of_calls (v := .int .i64 (Lib.compareBytes a b)) rfl Go.Proofs.Tryz.call145 (fun _ => .int _ _) fun w => Go.Proofs.Tryz.strings_Compare ⟨a.toArray⟩ ⟨b.toArray⟩ w
end Go.Am
