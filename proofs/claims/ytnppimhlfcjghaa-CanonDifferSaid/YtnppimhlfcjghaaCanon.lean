/- canon: Fields. -/
import Derived.Test.YtnppimhlfcjghaaFirst
import Derived.Test.YtnppimhlfcjghaaDec1
namespace Go.Proofs.Ytnppimhlfcjghaa
open Go.RowKit
def fieldsL : List ByteArray := [⟨#[104, 101, 97, 100]⟩, ⟨#[115, 108, 111, 116]⟩, ⟨#[106, 117, 115, 116, 105, 102, 105, 101, 100, 32, 101, 112, 111, 99, 104]⟩, ⟨#[106, 117, 115, 116, 105, 102, 105, 101, 100, 32, 114, 111, 111, 116]⟩, ⟨#[102, 105, 110, 97, 108, 32, 101, 112, 111, 99, 104]⟩, ⟨#[102, 105, 110, 97, 108, 32, 114, 111, 111, 116]⟩, ⟨#[98, 111, 111, 115, 116, 101, 100]⟩, ⟨#[98, 108, 111, 99, 107, 115]⟩]
theorem Fields_calls (w : World) : Calls Try.prog 13 #[] w fun e w' => ∃ b t, e = .returned (.slice (some ⟨b, 0, none⟩) 8 8) ∧ w'.heap[b]? = some (.cells (fieldsL.map Value.string).toArray t (0, 0)) ∧ Below w.heap.size w w' := by
  go_enter Try.func13, Try.ntmps13
  go_wp2
  go_ret
  exact ⟨_, _, rfl, heap_new w _, below_alloc (Below.refl _ _) _⟩
/-- The field in which bytes differ first. -/
def diffB (a b : List Int) : ByteArray :=
  if firstB a b < 0 then ⟨#[]⟩
  else if (firstB a b).toNat / 8 < 8 then fieldsL.getD ((firstB a b).toNat / 8) ⟨#[]⟩
  else if 64 ≤ a.length ∧ (((firstB a b).toNat / 8 - 8) / 3 : Nat) < valK a 56 8 then ⟨#[98, 108, 111, 99, 107]⟩ else ⟨#[118, 111, 116, 101]⟩
theorem firstB_cases (a b : List Int) : firstB a b = -1 ∨ ∃ n : Nat, firstB a b = n ∧ n ≤ a.length := by
  unfold firstB
  split
  · exact .inl rfl
  · exact .inr ⟨_, rfl, (cmn_le a b).1⟩
set_option maxHeartbeats 1000000 in
theorem Differ_calls (w : World) (A : Option Addr) (c : Nat) (a : List Int) (A2 : Option Addr) (c2 : Nat) (b : List Int) (ha : Ints anyB .u8 w A a) (hb : Ints anyB .u8 w A2 b) (hf : Fits a.length c) (hl2 : b.length ≤ maxLen) (hw : bytesW a) :
    Calls Try.prog 12 #[.slice A a.length c, .slice A2 b.length c2] w fun e w' => e = .returned (.string (diffB a b)) ∧ Below w.heap.size w w' := by
  obtain ⟨B, HB, hB1, hB2⟩ := size_hid w
  rw [HB.out]
  rcases firstB_cases a b with h | ⟨n, h, hn⟩
  · have H := Lib.hid h
    clear h
    go_enter Try.func12, Try.ntmps12
    go_wp2_with (go_at_call 10; refine (First_calls _ A c a A2 c2 b ha hb hf.2 hl2).mono ?_; rintro e w1 ⟨rfl, hb1⟩; rw [H.out])
    go_ret
    refine ⟨?_, hb1.mono hB2⟩
    rw [diffB, H.out, if_pos (by decide)]
    rfl
  · have H := Lib.hid h
    have hq : ((n : Int)).tdiv 8 = ((n / 8 : Nat) : Int) := by
      rw [Int.tdiv_eq_ediv_of_nonneg (by omega)]
      omega
    have hnl : n ≤ 9223372036854775807 := by have := hf.2; unfold maxLen at this; omega
    obtain ⟨k, hk⟩ : ∃ k, k = n / 8 := ⟨_, rfl⟩
    rw [← hk] at hq
    have HK := Lib.hid hk
    have hkn : k ≤ n := by omega
    clear h hk
    go_enter Try.func12, Try.ntmps12
    go_upto_region 4 with (go_at_call 10; refine (First_calls _ A c a A2 c2 b ha hb hf.2 hl2).mono ?_; rintro e w1 ⟨rfl, hb1⟩; rw [H.out])
    have hbw1 := hb1.mono hB2
    have hBs1 : B ≤ w1.heap.size := Nat.le_trans hB2 hb1.size
    have ha1 := ha.below hb1
    have tok1 : True := trivial
    by_cases h8 : k < 8
    · go_wp2_with (first
        | (go_at_call 13; have _t := tok1; refine (Fields_calls _).mono ?_; rintro e w2 ⟨b1, t1, rfl, hblk1, hb2⟩; clear _t tok1)
        | (go_at_call 13; refine (Fields_calls _).mono ?_; rintro e w3 ⟨b2, t2, rfl, hblk2, hb3⟩; have hc : w3.cell? ⟨b2, k, none⟩ = some (.string (fieldsL.getD k ⟨#[]⟩)) := (by rw [blk_cell hblk2]; have hl : fieldsL.length = 8 := rfl; simp [hl, h8])))
      go_ret
      refine ⟨?_, hbw1.trans ((below_trans hb2 hb3).mono hBs1)⟩
      rw [diffB, H.out, if_neg (by omega), if_pos (by have := HK.out; omega)]
      have hk2 : (n : Int).toNat / 8 = k := by have := HK.out; omega
      rw [hk2]
      rfl
    · obtain ⟨m, hm⟩ : ∃ m, m = (k - 8) / 3 := ⟨_, rfl⟩
      have hm3 : ((k : Int) - 8).tdiv 3 = m := by
        rw [Int.tdiv_eq_ediv_of_nonneg (by omega)]
        omega
      have HM := Lib.hid hm
      have hml : m ≤ k := by omega
      clear hm
      by_cases hL : 64 ≤ a.length
      · have hv := val8_le hw 56
        have hG := fun W (h : Ints anyB .u8 W A a) => Get_hit W A a.length c a 56 h hw rfl (by have := hf.2; unfold maxLen at this; omega) hf hL
        obtain ⟨v, hve⟩ : ∃ v, v = valK a 56 8 := ⟨_, rfl⟩
        rw [← hve] at hG hv
        have HV := Lib.hid hve
        clear hve
        by_cases hlt : (m : Int) < v
        · go_wp2_with (first
            | (go_at_call 13; refine (Fields_calls _).mono ?_; rintro e w2 ⟨b1, t1, rfl, hblk1, hb2⟩; have ha2 := ha1.below hb2)
            | (go_at_call 11; refine (hG _ ha2).mono ?_; rintro e w3 ⟨rfl, rfl⟩))
          go_ret
          refine ⟨?_, hbw1.trans (hb2.mono hBs1)⟩
          rw [diffB, H.out, if_neg (by omega), if_neg (by have := HK.out; omega), if_pos ⟨hL, by have := HK.out; have := HM.out; have := HV.out; rw [← this]; simp; omega⟩]
          rfl
        · go_wp2_with (first
            | (go_at_call 13; refine (Fields_calls _).mono ?_; rintro e w2 ⟨b1, t1, rfl, hblk1, hb2⟩; have ha2 := ha1.below hb2)
            | (go_at_call 11; refine (hG _ ha2).mono ?_; rintro e w3 ⟨rfl, rfl⟩))
          go_ret
          refine ⟨?_, hbw1.trans (hb2.mono hBs1)⟩
          rw [diffB, H.out, if_neg (by omega), if_neg (by have := HK.out; omega), if_neg (fun h => by have := HK.out; have := HM.out; have h2 := h.2; rw [← HV.out] at h2; simp at h2; omega)]
          rfl
      · go_wp2_with (first
          | (go_at_call 13; refine (Fields_calls _).mono ?_; rintro e w2 ⟨b1, t1, rfl, hblk1, hb2⟩)
          | (go_at_call 11; refine (Get_miss _ A a.length c 56 (by omega) (by have := hf.2; unfold maxLen at this; omega) (by decide)).mono ?_; rintro e w3 ⟨rfl, rfl⟩))
        go_ret
        refine ⟨?_, hbw1.trans (hb2.mono hBs1)⟩
        rw [diffB, H.out, if_neg (by omega), if_neg (by have := HK.out; omega), if_neg (fun h => hL h.1)]
        rfl
end Go.Proofs.Ytnppimhlfcjghaa
