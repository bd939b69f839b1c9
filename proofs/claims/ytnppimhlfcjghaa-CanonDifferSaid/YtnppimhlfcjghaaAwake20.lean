/- psephoslaw20.awake. -/
import Derived.Test.YtnppimhlfcjghaaStoreOf
import Derived.Test.YtnppimhlfcjghaaCanonOf
import Derived.Test.YtnppimhlfcjghaaCanon
namespace Go.Proofs.Ytnppimhlfcjghaa
open Go.RowKit
set_option maxRecDepth 100000
set_option maxHeartbeats 2000000
def cf20 : Cf := ⟨[1], 4, 0⟩
theorem cf20_ok : cf20.ok := ⟨by decide, by decide, by decide, by decide, by decide, by decide, by decide⟩
theorem roots_one (r s : Int) : (Tr.of r s).roots = [r] := by simp [Tr.of, Tr.roots, keys, sortI]
theorem canonL20 (h : Int) : canonL (St.of cf20) h = [h, 0, 0, 1, 0, 1, 0, 1, 1, 1, 0, 1, 0, 0, 0, 0] := by
  unfold canonL
  rw [show (St.of cf20).tree.roots = [1] from roots_one 1 0]
  rfl
theorem num20 : (St.of cf20).num := by
  refine ⟨by decide, by decide, by decide, by decide, fun r => ?_, by decide, by decide⟩
  have h : (St.of cf20).tree.nd r = if r = 1 then ⟨1, 0, 0⟩ else Nd.zero := by
    show ((lk [((1 : Int), (⟨1, 0, 0⟩ : Nd))] r).getD Nd.zero) = _
    rw [lk_cons, lk_nil]
    split <;> rfl
  rw [h]
  split <;> decide
def x20 (h : Int) : List Int := bes [h, 0, 0, 1, 0, 1, 0, 1, 1, 1, 0, 1, 0, 0, 0, 0]
theorem x20_length (h : Int) : (x20 h).length = 128 := by rw [x20, bes_length]; rfl
theorem diff20 : diffB (x20 1) (x20 2) = ⟨#[104, 101, 97, 100]⟩ := by
  have h : firstB (x20 1) (x20 2) = 7 := by decide
  rw [diffB, h]
  rfl
theorem diff20' : diffB (x20 1) (x20 1) = ⟨#[]⟩ := by
  have h : firstB (x20 1) (x20 1) = -1 := by decide
  rw [diffB, h]
  rfl
theorem bytes20 : bytesW (x20 1) := by unfold bytesW; decide
theorem Of20 {w : World} {p : Places} {k vk : Nat} {ch : Value} (h : StoreAt w p (St.of cf20) k vk ch) (hd : Int) :
    Calls Try.prog 33 #[.pointer (some ⟨p.sb, 0, none⟩), .int .u64 hd] w fun e w' => ∃ A c, e = .returned (.slice A 128 c) ∧ Ints anyB .u8 w' A (x20 hd) ∧ Below w.heap.size w w' ∧ Fits 128 c :=
  (Of_calls h num20 hd).mono fun e w' ⟨A, c, h1, h2, h3, h4⟩ => by
    rw [canonL20 hd] at h1 h2 h4
    have hl : (bes [hd, 0, 0, 1, 0, 1, 0, 1, 1, 1, 0, 1, 0, 0, 0, 0]).length = 128 := x20_length hd
    rw [hl] at h1 h4
    exact ⟨A, c, h1, h2, h3, h4⟩
theorem Differ20 {w : World} {A A2 : Option Addr} {c c2 : Nat} {h2 : Int} (ha : Ints anyB .u8 w A (x20 1)) (hb : Ints anyB .u8 w A2 (x20 h2)) (hf : Fits 128 c) :
    Calls Try.prog 12 #[.slice A 128 c, .slice A2 128 c2] w fun e w' => e = .returned (.string (diffB (x20 1) (x20 h2))) ∧ Below w.heap.size w w' := by
  have := Differ_calls w A c (x20 1) A2 c2 (x20 h2) ha hb (by rw [x20_length]; exact hf) (by rw [x20_length]; decide) bytes20
  rwa [x20_length, x20_length] at this
theorem awake20_calls (w : World) : Calls Try.prog 9 #[] w fun e w' => e = .returned (.bool true) ∧ Below w.heap.size w w' := by
  have hb0 : Below w.heap.size w (w.alloc (.cells #[.int .u64 1] 28)) := below_alloc (Below.refl _ _) _
  have hI0 : Ints anyB .u64 (w.alloc (.cells #[.int .u64 1] 28)) (some ⟨w.heap.size, 0, none⟩) cf20.bal := ints_blk [1] (heap_new w _)
  have cS := SOf_calls (w.alloc (.cells #[.int .u64 1] 28)) cf20 (some ⟨w.heap.size, 0, none⟩) 1 cf20_ok hI0
  have tok : True := trivial
  go_enter Try.func9, Try.ntmps9
  go_upto_region 4 with (go_at_call 16; refine cS.mono ?_; rintro e w1 ⟨p, k, vk, rfl, hS, hp, hb1⟩; obtain ⟨_, _, _, x3, _⟩ := cs14 (show w1.heap[p.sb]? = some (.cells #[.slice (some ⟨p.bb, 0, none⟩) 1 k, .int .i64 4, .int .i64 0, .pointer (some ⟨p.tb, 0, none⟩), .slice (some ⟨p.vb, 0, none⟩) 1 vk, .int .i64 0, .int .u64 0, .int .i64 0, .int .u64 1, .int .i64 0, .int .u64 1, .map (some p.lb), .map (some p.gb), .slice none 0 0] _ _) from hS.blk))
  have hb1' : Below w.heap.size w w1 := below_then hb0 (by simp) hb1
  clear cS hI0 hb0 hb1 hp
  go_upto_region 5 with (first
    | (go_at_call 33; have _t := tok; refine (Of20 hS 1).mono ?_; rintro e w2 ⟨A1, c1, rfl, hI1, hb2, hf1⟩; clear _t tok)
    | (go_at_call 33; refine (Of20 (hS.below hb2) 2).mono ?_; rintro e w3 ⟨A2, c2, rfl, hI2, hb3, hf2⟩))
  have hI1' := hI1.below hb3
  have hbw := hb1'.trans ((below_trans hb2 hb3).mono hb1'.size)
  have tok : True := trivial
  go_wp2_with (first
    | (go_at_call 12; have _t := tok; refine (Differ20 hI1' hI2 hf1).mono ?_; rintro e w4 ⟨rfl, hb4⟩; rw [diff20]; clear _t tok)
    | (go_at_call 12; refine (Differ20 (hI1'.below hb4) (hI1'.below hb4) hf1).mono ?_; rintro e w5 ⟨rfl, hb5⟩; rw [diff20'])
    | (go_at_call 13; refine (Fields_calls _).mono ?_; rintro e w6 ⟨b6, t6, rfl, hblk6, hb6⟩))
  go_ret
  exact ⟨rfl, hbw.trans ((below_trans hb4 (below_trans hb5 hb6)).mono hbw.size)⟩
end Go.Proofs.Ytnppimhlfcjghaa
