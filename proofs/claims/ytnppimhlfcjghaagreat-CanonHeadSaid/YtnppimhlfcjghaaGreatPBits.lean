import Derived.Test.YtnppimhlfcjghaaGreatProg
import Derived.WalkKit
import Derived.Deep.Light
import Derived.Lib.Strings
import Derived.Lib.Slices
import Derived.Lib.Small
import Derived.Lib.Walk
import Derived.Lib.BitFns
import Derived.Sort.Statements
import Derived.Sort.LotD1
set_option linter.all false
set_option linter.unusedVariables false
set_option linter.unusedSimpArgs false
namespace Go.Proofs.YtnppimhlfcjghaaGreat
open Go.RowKit
set_option maxRecDepth 1000000
set_option maxHeartbeats 32000000
theorem Bt.len8tab_size : (Lib.len8tab.size : Int) = 256 := by
 have := Lib.len8tab_size
 omega
theorem Bt.wrap_add (k a b : Nat) (hk : k ≤ 56) (ha : a ≤ 8) (hb : b = k + a) : RowKit.wrap64 ((k : Int) + RowKit.wrap64 (a : Int)) = (b : Int) := by
 unfold RowKit.wrap64
 omega
theorem Bt.wrap_wrap (a : Nat) (ha : a ≤ 8) : RowKit.wrap64 (RowKit.wrap64 (a : Int)) = (a : Int) := by
 unfold RowKit.wrap64
 omega
theorem Bt.wrap_one (a : Nat) (ha : a ≤ 8) : RowKit.wrap64 (a : Int) = (a : Int) := by
 unfold RowKit.wrap64
 omega
theorem Bt.len8_get (y : Int) (h : y.toNat < Lib.len8tab.size) : ((Lib.len8tab[y.toNat]'h).toNat : Int) = Lib.len8 y := by
 unfold Lib.len8
 rw [getElem?_pos Lib.len8tab y.toNat h]
 rfl
theorem Bt.bits_Len64 (x : Int) (w : World) (h0 : 0 ≤ x) (h1 : x ≤ 18446744073709551615) :
    Calls Tryz.prog 108 #[.int .u64 x] w fun e w' => e = .returned (.int .i64 (Lib.bitLen x.toNat)) ∧ w' = w := by
 go_enter Tryz.func108, Tryz.ntmps108
 go_wp2
 all_goals first
  | (go_ret; refine ⟨congrArg Ending.returned (congrArg (Value.int IntKind.i64) ?_), rfl⟩; go_light)
  | (exfalso
     go_light
     have hs := Bt.len8tab_size
     omega)
 all_goals first
  | (rw [Bt.len8_get (x / 4294967296 / 65536 / 256) _, Lib.len8_of (x / 4294967296 / 65536 / 256) (by omega) (by omega)]
     have e : (x / 4294967296 / 65536 / 256).toNat = x.toNat / 72057594037927936 := by omega
     have l := Lib.bitLen_le8' (x / 4294967296 / 65536 / 256) (by omega) (by omega)
     have s := Lib.bitLen_shift56 x.toNat (by omega) (by omega)
     rw [e] at l ⊢
     exact Bt.wrap_add 56 _ _ (by decide) l s)
  | (rw [Bt.len8_get (x / 4294967296 / 65536) _, Lib.len8_of (x / 4294967296 / 65536) (by omega) (by omega)]
     have e : (x / 4294967296 / 65536).toNat = x.toNat / 281474976710656 := by omega
     have l := Lib.bitLen_le8' (x / 4294967296 / 65536) (by omega) (by omega)
     have s := Lib.bitLen_shift48 x.toNat (by omega) (by omega)
     rw [e] at l ⊢
     exact Bt.wrap_add 48 _ _ (by decide) l s)
  | (rw [Bt.len8_get (x / 4294967296 / 256) _, Lib.len8_of (x / 4294967296 / 256) (by omega) (by omega)]
     have e : (x / 4294967296 / 256).toNat = x.toNat / 1099511627776 := by omega
     have l := Lib.bitLen_le8' (x / 4294967296 / 256) (by omega) (by omega)
     have s := Lib.bitLen_shift40 x.toNat (by omega) (by omega)
     rw [e] at l ⊢
     exact Bt.wrap_add 40 _ _ (by decide) l s)
  | (rw [Bt.len8_get (x / 4294967296) _, Lib.len8_of (x / 4294967296) (by omega) (by omega)]
     have e : (x / 4294967296).toNat = x.toNat / 4294967296 := by omega
     have l := Lib.bitLen_le8' (x / 4294967296) (by omega) (by omega)
     have s := Lib.bitLen_shift32 x.toNat (by omega) (by omega)
     rw [e] at l ⊢
     exact Bt.wrap_add 32 _ _ (by decide) l s)
  | (rw [Bt.len8_get (x / 65536 / 256) _, Lib.len8_of (x / 65536 / 256) (by omega) (by omega)]
     have e : (x / 65536 / 256).toNat = x.toNat / 16777216 := by omega
     have l := Lib.bitLen_le8' (x / 65536 / 256) (by omega) (by omega)
     have s := Lib.bitLen_shift24 x.toNat (by omega) (by omega)
     rw [e] at l ⊢
     exact Bt.wrap_add 24 _ _ (by decide) l s)
  | (rw [Bt.len8_get (x / 65536) _, Lib.len8_of (x / 65536) (by omega) (by omega)]
     have e : (x / 65536).toNat = x.toNat / 65536 := by omega
     have l := Lib.bitLen_le8' (x / 65536) (by omega) (by omega)
     have s := Lib.bitLen_shift16 x.toNat (by omega) (by omega)
     rw [e] at l ⊢
     exact Bt.wrap_add 16 _ _ (by decide) l s)
  | (rw [Bt.len8_get (x / 256) _, Lib.len8_of (x / 256) (by omega) (by omega)]
     have e : (x / 256).toNat = x.toNat / 256 := by omega
     have l := Lib.bitLen_le8' (x / 256) (by omega) (by omega)
     have s := Lib.bitLen_shift8 x.toNat (by omega) (by omega)
     rw [e] at l ⊢
     exact Bt.wrap_add 8 _ _ (by decide) l s)
  | (rw [Bt.len8_get (x) _, Lib.len8_of (x) (by omega) (by omega)]
     have e : (x).toNat = x.toNat := by omega
     have l := Lib.bitLen_le8' (x) (by omega) (by omega)
     rw [e] at l ⊢
     first | exact Bt.wrap_wrap _ l | exact Bt.wrap_add 0 _ _ (by decide) l (by omega) | exact Bt.wrap_one _ l)
theorem Bt.bits_Len (x : Int) (w : World) (h0 : 0 ≤ x) (h1 : x ≤ 18446744073709551615) :
    Calls Tryz.prog 94 #[.int .u64 x] w fun e w' => e = .returned (.int .i64 (Lib.bitLen x.toNat)) ∧ w' = w := by
 go_enter Tryz.func94, Tryz.ntmps94
 go_wp2_with (go_at_call 108; refine (Bt.bits_Len64 x _ h0 h1).mono ?_; rintro e w' ⟨rfl, rfl⟩)
 go_ret
 exact ⟨rfl, rfl⟩
open Go.Sort in
theorem Bt.bitLen_eq (x : Nat) (h : x < 2 ^ 64) : Lib.bitLen x = bitsLen x := by
 induction x using Nat.strongRecOn with
 | _ x ih =>
  by_cases h0 : x = 0
  ·subst h0; rfl
  ·rw [Lib.bitLen_half x h0 h, ih (x / 2) (by omega) (by omega)]
   unfold bitsLen
   rw [if_neg h0, Nat.log2_def x]
   by_cases h2 : 2 ≤ x
   ·rw [if_pos h2, if_neg (by omega)]; omega
   ·obtain rfl : x = 1 := by omega
    simp
end Go.Proofs.YtnppimhlfcjghaaGreat
