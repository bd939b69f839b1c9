import Derived.Test.YtnppimhlfcjghaaGreatPFlag
import Derived.Test.YtnppimhlfcjghaaGreatPBase
import Derived.Deep.RegionHeld3
import Derived.Deep.RegionLaw
import Derived.Deep.CutBlock
import Derived.Deep.DrawnRows
import Derived.BigQuiet
import Derived.Deep.DeepCutAuto
import Derived.Laws.BitsAllLaws
import Derived.Test.YtnppimhlfcjghaaGreatPStoreOf
import Derived.Test.YtnppimhlfcjghaaGreatPPmOk
import Derived.Laws.BytesArg
set_option linter.all false
set_option linter.unusedVariables false
set_option linter.unusedSimpArgs false
namespace Go.Proofs.YtnppimhlfcjghaaGreat
open Go.RowKit
def cmn : List Int → List Int → Nat
 | x :: a, y :: b => if x = y then cmn a b + 1 else 0
 | _, _ => 0
theorem cmn_le : ∀ (a b : List Int), cmn a b ≤ a.length ∧ cmn a b ≤ b.length
 | [], _ => by simp [cmn]
 | _ :: _, [] => by simp [cmn]
 | x :: a, y :: b => by
   have := cmn_le a b
   simp only [cmn]
   split <;> simp <;> omega
theorem cmn_at : ∀ (a b : List Int) (k : Nat), k < a.length → k < b.length → (∀ j, j < k → a[j]? = b[j]?) → a[k]? ≠ b[k]? → cmn a b = k
 | [], _, k, h, _, _, _ => by simp at h
 | _ :: _, [], k, _, h, _, _ => by simp at h
 | x :: a, y :: b, 0, _, _, _, hne => by
   simp only [cmn]
   rw [if_neg]
   intro h
   exact hne (by simp [h])
 | x :: a, y :: b, k + 1, h1, h2, he, hne => by
   have h0 : x = y := by simpa using he 0 (by omega)
   simp only [cmn]
   rw [if_pos h0, cmn_at a b k (by simpa using h1) (by simpa using h2) (fun j hj => by simpa using he (j + 1) (by omega)) (by simpa using hne)]
theorem cmn_all : ∀ (a b : List Int), (∀ j, j < min a.length b.length → a[j]? = b[j]?) → cmn a b = min a.length b.length
 | [], _, _ => by simp [cmn]
 | _ :: _, [], _ => by simp [cmn]
 | x :: a, y :: b, he => by
   have h0 : x = y := by simpa using he 0 (by simp)
   simp only [cmn]
   rw [if_pos h0, cmn_all a b (fun j hj => by simpa using he (j + 1) (by simp; omega))]
   simp
def firstB (a b : List Int) : Int := if cmn a b = a.length ∧ cmn a b = b.length then -1 else cmn a b
set_option maxHeartbeats 400000 in
theorem First_calls (w : World) (A : Option Addr) (c : Nat) (a : List Int) (A2 : Option Addr) (c2 : Nat) (b : List Int) (ha : Ints anyB .u8 w A a) (hb : Ints anyB .u8 w A2 b) (hl : a.length ≤ maxLen) (hl2 : b.length ≤ maxLen) :
    Calls Tryz.prog 45 #[.slice A a.length c, .slice A2 b.length c2] w fun e w' => e = .returned (.int .i64 (firstB a b)) ∧ Below w.heap.size w w' := by
 unfold maxLen at hl hl2
 obtain ⟨m, hm⟩ : ∃ m, m = min a.length b.length := ⟨_, rfl⟩
 have hma : m ≤ a.length := by omega
 have hmb : m ≤ b.length := by omega
 have HM := Lib.hid hm
 have hmi : (min (a.length : Int) (b.length : Int)) = m := by omega
 have HN : Hid (∀ j : Nat, j < m → ∃ b1 o1 b2 o2, A = some ⟨b1, o1, none⟩ ∧ A2 = some ⟨b2, o2, none⟩ ∧ w.cell? ⟨b1, o1 + j, none⟩ = some (.int .u8 (a.getD j 0)) ∧ w.cell? ⟨b2, o2 + j, none⟩ = some (.int .u8 (b.getD j 0))) := fun j hj => by
  obtain ⟨b1, o1, h1, _, h2⟩ := ha.get (j := j) (by omega)
  obtain ⟨b2, o2, h3, _, h4⟩ := hb.get (j := j) (by omega)
  exact ⟨b1, o1, b2, o2, h1, h3, h2, h4⟩
 clear ha hb hm
 go_enter Tryz.func45, Tryz.ntmps45
 go_upto_region 1 with fail
 go_cut [10, 11] (fun u v w' => u = .int .i64 m ∧ v = .int .i64 0 ∧ w = w')
 case first =>
  go_wp2
  all_goals
   go_meet
   case rel =>
    have := HM.out
    refine ⟨?_, rfl, rfl⟩
    congr 1
    all_goals omega
 case rest =>
  obtain ⟨rfl, rfl, rfl⟩ := hcut
  go_wp2_with fail
  go_loopw [11] (fun i wr => ∃ k : Nat, k ≤ m ∧ i = .int .i64 k ∧ Hid (∀ j, j < k → a[j]? = b[j]?) ∧ Hid (∃ q, wr = w.drewN q)) (fun i _ => m - (intOf i).toNat)
  case atStart => exact ⟨0, Nat.zero_le _, rfl, fun j hj => by omega, 0, rfl⟩
  case round =>
   obtain ⟨k, hk, rfl, HE, HQ⟩ := hrel
   have hbw : Below w.heap.size w wr := by
    obtain ⟨q, rfl⟩ := HQ.out
    exact below_drewN (Below.refl _ _) q
   by_cases hlt : k < m
   ·obtain ⟨b1, o1, b2, o2, rfl, rfl, p1, p2⟩ := HN.out k hlt
    obtain ⟨q, rfl⟩ := HQ.out
    have ga : a[k]? = some (a.getD k 0) := by rw [List.getD_eq_getElem?_getD, List.getElem?_eq_getElem (by omega)]; rfl
    have gb : b[k]? = some (b.getD k 0) := by rw [List.getD_eq_getElem?_getD, List.getElem?_eq_getElem (by omega)]; rfl
    generalize a.getD k 0 = x at p1 ga
    generalize b.getD k 0 = y at p2 gb
    have GA := Lib.hid ga
    have GB := Lib.hid gb
    clear ga gb
    by_cases hxy : x = y
    ·subst hxy
     go_upto_region 4 with fail
     go_quiet (fail)
     go_wp2
     go_roundw
     case rel =>
      refine ⟨k + 1, by omega, by go_num, ?_, ?_⟩
      ·intro j hj
       rcases Nat.lt_or_ge j k with h | h
       ·exact HE.out j h
       ·obtain rfl : j = k := by omega
        rw [GA.out, GB.out]
      ·exact ⟨q + nq, rfl⟩
     case measure => simp [intOf]; omega
    ·have hne : (x == y) = false := by simp [hxy]
     have hnb : (x != y) = true := by simp [hxy]
     go_upto_region 4 with fail
     go_quiet (fail)
     go_wp2
     go_ret
     have hc := cmn_at a b k (by omega) (by omega) HE.out (by rw [GA.out, GB.out]; intro h; exact hxy (Option.some.inj h))
     refine ⟨?_, ?_⟩
     ·rw [firstB, hc, if_neg (by omega)]
      rfl
     ·exact below_drewN (below_drewN (Below.refl _ _) q) nq
   ·obtain rfl : k = m := by omega
    have hm := HM.out
    have hc := cmn_all a b (by rw [← hm]; exact HE.out)
    rw [← hm] at hc
    have HC := Lib.hid hc
    clear hc hm
    by_cases hab : a.length = b.length
    ·go_wp2
     go_ret
     refine ⟨?_, hbw⟩
     have := HM.out
     rw [firstB, HC.out, if_pos (by omega)]
     rfl
    ·go_wp2
     all_goals
      go_ret
      refine ⟨?_, hbw⟩
      have := HM.out
      rw [firstB, HC.out, if_neg (by omega)]
      show Ending.returned (Value.int .i64 _) = _
      congr 2
      all_goals omega
end Go.Proofs.YtnppimhlfcjghaaGreat
namespace Go.Proofs.YtnppimhlfcjghaaGreat
open Go.RowKit
def valK (bs : List Int) (o : Nat) : Nat → Int
 | 0 => 0
 | k + 1 => valK bs o k * 256 + bs[o + k]?.getD 0
def groups (bs : List Int) : List Int := (List.range (bs.length / 8)).map fun p => valK bs (8 * p) 8
theorem groups_length (bs : List Int) : (groups bs).length = bs.length / 8 := by simp [groups]
theorem groups_get (bs : List Int) (p : Nat) (h : 8 * p + 8 ≤ bs.length) : (groups bs)[p]? = some (valK bs (8 * p) 8) := by
 have : p < bs.length / 8 := by omega
 simp [groups, this]
def bytesW (bs : List Int) : Prop := ∀ x ∈ bs, 0 ≤ x ∧ x < 256
theorem byte_at {bs : List Int} (h : bytesW bs) (i : Nat) : 0 ≤ bs[i]?.getD 0 ∧ bs[i]?.getD 0 < 256 := by
 cases hi : bs[i]? with
 | none => simp
 | some x => exact h x (List.mem_of_getElem? hi)
theorem valK_lt {bs : List Int} (h : bytesW bs) (o k : Nat) : 0 ≤ valK bs o k ∧ valK bs o k < 256 ^ k := by
 induction k with
 | zero => simp [valK]
 | succ k ih =>
  have := byte_at h (o + k)
  rw [Int.pow_succ]
  simp only [valK]
  omega
theorem valK_le {bs : List Int} (h : bytesW bs) (o k : Nat) (hk : k < 8) : 0 ≤ valK bs o k ∧ valK bs o k < 72057594037927936 := by
 have h1 := valK_lt h o k
 refine ⟨h1.1, ?_⟩
 match k, hk with | 0, _ | 1, _ | 2, _ | 3, _ | 4, _ | 5, _ | 6, _ | 7, _ => omega
theorem val8_le {bs : List Int} (h : bytesW bs) (o : Nat) : 0 ≤ valK bs o 8 ∧ valK bs o 8 ≤ 18446744073709551615 := by
 have := valK_lt h o 8
 omega
theorem or_step {a c : Int} (h0 : 0 ≤ a) (h1 : a < 72057594037927936) (h2 : 0 ≤ c) (h3 : c < 256) : bits .or .u64 (a * 256) c = a * 256 + c := by
 rw [u64_or _ _ (by omega) (by omega) h2 (by omega)]
 obtain ⟨n, rfl⟩ := Int.eq_ofNat_of_zero_le h0
 obtain ⟨m, rfl⟩ := Int.eq_ofNat_of_zero_le h2
 have := Nat.two_pow_add_eq_or_of_lt (b := m) (i := 8) (by omega) n
 have e : ((n : Int) * 256).toNat = 2 ^ 8 * n := by omega
 rw [e, Int.toNat_natCast, ← this, Int.natCast_add, Int.natCast_mul]
 omega
set_option maxHeartbeats 400000 in
theorem Get_hit (w : World) (A : Option Addr) (n c : Nat) (bs : List Int) (q : Nat) (hb : Ints anyB .u8 w A bs) (hw : bytesW bs) (hn : bs.length = n) (hl : n ≤ 9223372036854775807) (hf : Fits n c) (hp : q + 8 ≤ n) :
    Calls Tryz.prog 20 #[.slice A n c, .int .i64 q] w fun e w' =>
     e = .returned (.tuple #[.int .u64 (valK bs q 8), .int .i64 (q + 8 : Nat), .bool true]) ∧ w' = w := by
 obtain ⟨b, o, rfl, _, _⟩ := hb.get (j := q) (by omega)
 have HC : Hid (∀ i : Nat, i < 8 → w.cell? ⟨b, o + q + i, none⟩ = some (.int .u8 (bs[q + i]?.getD 0))) := fun i hi => by
  obtain ⟨b', o', he, _, h⟩ := hb.get (j := q + i) (by omega)
  cases he
  rw [Nat.add_assoc, h, List.getD_eq_getElem?_getD]
 have hcap : n ≤ c := hf.1
 clear hb hf
 go_enter Tryz.func20, Tryz.ntmps20
 go_wp2
 go_loop [7, 26] (fun v i => ∃ k : Nat, k ≤ 8 ∧ v = .int .u64 (valK bs q k) ∧ i = .int .i64 k) (fun _ i => 8 - (intOf i).toNat)
 case atStart => exact ⟨0, by omega, rfl, rfl⟩
 case round =>
  obtain ⟨k, hk, rfl, rfl⟩ := hrel
  by_cases hlt : k < 8
  ·have hc := HC.out k hlt
   have hx := byte_at hw (q + k)
   have hv := valK_le hw q k hlt
   have HV : Hid (valK bs q (k + 1) = valK bs q k * 256 + bs[q + k]?.getD 0) := rfl
   generalize bs[q + k]?.getD 0 = x at hc hx HV
   generalize valK bs q k = y at hv HV ⊢
   have hor := or_step hv.1 hv.2 hx.1 hx.2
   go_wp2
   go_round
   case rel => exact ⟨k + 1, by omega, by rw [HV.out], by go_num⟩
   case measure => simp [intOf]; omega
  ·obtain rfl : k = 8 := by omega
   go_wp2
   go_ret3
   exact ⟨rfl, rfl⟩
theorem Get_miss (w : World) (A : Option Addr) (n c : Nat) (q : Nat) (hp : ¬ q + 8 ≤ n) (hl : n ≤ 9223372036854775807) (hl2 : q ≤ 9223372036854775807) :
    Calls Tryz.prog 20 #[.slice A n c, .int .i64 q] w fun e w' =>
     e = .returned (.tuple #[.int .u64 0, .int .i64 q, .bool false]) ∧ w' = w := by
 have h1 : decide ((n : Int) - 8 < q) = true := by simp; omega
 go_enter Tryz.func20, Tryz.ntmps20
 go_wp2
 go_ret3
 exact ⟨rfl, rfl⟩
end Go.Proofs.YtnppimhlfcjghaaGreat
namespace Go.Proofs.YtnppimhlfcjghaaGreat
open Go.RowKit
def fieldsL : List ByteArray := [⟨#[104, 101, 97, 100]⟩, ⟨#[115, 108, 111, 116]⟩, ⟨#[106, 117, 115, 116, 105, 102, 105, 101, 100, 32, 101, 112, 111, 99, 104]⟩, ⟨#[106, 117, 115, 116, 105, 102, 105, 101, 100, 32, 114, 111, 111, 116]⟩, ⟨#[102, 105, 110, 97, 108, 32, 101, 112, 111, 99, 104]⟩, ⟨#[102, 105, 110, 97, 108, 32, 114, 111, 111, 116]⟩, ⟨#[98, 111, 111, 115, 116, 101, 100]⟩, ⟨#[98, 108, 111, 99, 107, 115]⟩]
theorem Fields_calls (w : World) : Calls Tryz.prog 30 #[] w fun e w' => ∃ b t, e = .returned (.slice (some ⟨b, 0, none⟩) 8 8) ∧ w'.heap[b]? = some (.cells (fieldsL.map Value.string).toArray t (0, 0)) ∧ Below w.heap.size w w' := by
 go_enter Tryz.func30, Tryz.ntmps30
 go_wp2
 go_ret
 exact ⟨_, _, rfl, heap_new w _, below_alloc (Below.refl _ _) _⟩
def diffB (a b : List Int) : ByteArray :=
 if firstB a b < 0 then ⟨#[]⟩
 else if (firstB a b).toNat / 8 < 8 then fieldsL.getD ((firstB a b).toNat / 8) ⟨#[]⟩
 else if 64 ≤ a.length ∧ (((firstB a b).toNat / 8 - 8) / 3 : Nat) < valK a 56 8 then ⟨#[98, 108, 111, 99, 107]⟩ else ⟨#[118, 111, 116, 101]⟩
theorem firstB_cases (a b : List Int) : firstB a b = -1 ∨ ∃ n : Nat, firstB a b = n ∧ n ≤ a.length := by
 unfold firstB
 split
 ·exact .inl rfl
 ·exact .inr ⟨_, rfl, (cmn_le a b).1⟩
set_option maxHeartbeats 1000000 in
theorem Differ_calls (w : World) (A : Option Addr) (c : Nat) (a : List Int) (A2 : Option Addr) (c2 : Nat) (b : List Int) (ha : Ints anyB .u8 w A a) (hb : Ints anyB .u8 w A2 b) (hf : Fits a.length c) (hl2 : b.length ≤ maxLen) (hw : bytesW a) :
    Calls Tryz.prog 19 #[.slice A a.length c, .slice A2 b.length c2] w fun e w' => e = .returned (.string (diffB a b)) ∧ Below w.heap.size w w' := by
 obtain ⟨B, HB, hB1, hB2⟩ := size_hid w
 rw [HB.out]
 rcases firstB_cases a b with h | ⟨n, h, hn⟩
 ·have H := Lib.hid h
  clear h
  go_enter Tryz.func19, Tryz.ntmps19
  go_wp2_with (go_at_call 45; refine (First_calls _ A c a A2 c2 b ha hb hf.2 hl2).mono ?_; rintro e w1 ⟨rfl, hb1⟩; rw [H.out])
  go_ret
  refine ⟨?_, hb1.mono hB2⟩
  rw [diffB, H.out, if_pos (by decide)]
  rfl
 ·have H := Lib.hid h
  have hq : ((n : Int)).tdiv 8 = ((n / 8 : Nat) : Int) := by
   rw [Int.tdiv_eq_ediv_of_nonneg (by omega)]
   omega
  have hnl : n ≤ 9223372036854775807 := by have := hf.2; unfold maxLen at this; omega
  obtain ⟨k, hk⟩ : ∃ k, k = n / 8 := ⟨_, rfl⟩
  rw [← hk] at hq
  have HK := Lib.hid hk
  have hkn : k ≤ n := by omega
  clear h hk
  go_enter Tryz.func19, Tryz.ntmps19
  go_upto_region 4 with (go_at_call 45; refine (First_calls _ A c a A2 c2 b ha hb hf.2 hl2).mono ?_; rintro e w1 ⟨rfl, hb1⟩; rw [H.out])
  have hbw1 := hb1.mono hB2
  have hBs1 : B ≤ w1.heap.size := Nat.le_trans hB2 hb1.size
  have ha1 := ha.below hb1
  have tok1 : True := trivial
  by_cases h8 : k < 8
  ·go_wp2_with (first
      | (go_at_call 30; have _t := tok1; refine (Fields_calls _).mono ?_; rintro e w2 ⟨b1, t1, rfl, hblk1, hb2⟩; clear _t tok1)
      | (go_at_call 30; refine (Fields_calls _).mono ?_; rintro e w3 ⟨b2, t2, rfl, hblk2, hb3⟩; have hc : w3.cell? ⟨b2, k, none⟩ = some (.string (fieldsL.getD k ⟨#[]⟩)) := (by rw [blk_cell hblk2]; have hl : fieldsL.length = 8 := rfl; simp [hl, h8])))
   go_ret
   refine ⟨?_, hbw1.trans ((below_trans hb2 hb3).mono hBs1)⟩
   rw [diffB, H.out, if_neg (by omega), if_pos (by have := HK.out; omega)]
   have hk2 : (n : Int).toNat / 8 = k := by have := HK.out; omega
   rw [hk2]
   rfl
  ·obtain ⟨m, hm⟩ : ∃ m, m = (k - 8) / 3 := ⟨_, rfl⟩
   have hm3 : ((k : Int) - 8).tdiv 3 = m := by
    rw [Int.tdiv_eq_ediv_of_nonneg (by omega)]
    omega
   have HM := Lib.hid hm
   have hml : m ≤ k := by omega
   clear hm
   by_cases hL : 64 ≤ a.length
   ·have hv := val8_le hw 56
    have hG := fun W (h : Ints anyB .u8 W A a) => Get_hit W A a.length c a 56 h hw rfl (by have := hf.2; unfold maxLen at this; omega) hf hL
    obtain ⟨v, hve⟩ : ∃ v, v = valK a 56 8 := ⟨_, rfl⟩
    rw [← hve] at hG hv
    have HV := Lib.hid hve
    clear hve
    by_cases hlt : (m : Int) < v
    ·go_wp2_with (first
        | (go_at_call 30; refine (Fields_calls _).mono ?_; rintro e w2 ⟨b1, t1, rfl, hblk1, hb2⟩; have ha2 := ha1.below hb2)
        | (go_at_call 20; refine (hG _ ha2).mono ?_; rintro e w3 ⟨rfl, rfl⟩))
     go_ret
     refine ⟨?_, hbw1.trans (hb2.mono hBs1)⟩
     rw [diffB, H.out, if_neg (by omega), if_neg (by have := HK.out; omega), if_pos ⟨hL, by have := HK.out; have := HM.out; have := HV.out; rw [← this]; simp; omega⟩]
     rfl
    ·go_wp2_with (first
        | (go_at_call 30; refine (Fields_calls _).mono ?_; rintro e w2 ⟨b1, t1, rfl, hblk1, hb2⟩; have ha2 := ha1.below hb2)
        | (go_at_call 20; refine (hG _ ha2).mono ?_; rintro e w3 ⟨rfl, rfl⟩))
     go_ret
     refine ⟨?_, hbw1.trans (hb2.mono hBs1)⟩
     rw [diffB, H.out, if_neg (by omega), if_neg (by have := HK.out; omega), if_neg (fun h => by have := HK.out; have := HM.out; have h2 := h.2; rw [← HV.out] at h2; simp at h2; omega)]
     rfl
   ·go_wp2_with (first
       | (go_at_call 30; refine (Fields_calls _).mono ?_; rintro e w2 ⟨b1, t1, rfl, hblk1, hb2⟩)
       | (go_at_call 20; refine (Get_miss _ A a.length c 56 (by omega) (by have := hf.2; unfold maxLen at this; omega) (by decide)).mono ?_; rintro e w3 ⟨rfl, rfl⟩))
    go_ret
    refine ⟨?_, hbw1.trans (hb2.mono hBs1)⟩
    rw [diffB, H.out, if_neg (by omega), if_neg (by have := HK.out; omega), if_neg (fun h => hL h.1)]
    rfl
end Go.Proofs.YtnppimhlfcjghaaGreat
namespace Go.Proofs.YtnppimhlfcjghaaGreat
open Go.RowKit
set_option maxRecDepth 100000
set_option maxHeartbeats 2000000
def cf20 : Cf := ⟨[1], 4, 0⟩
theorem cf20_ok : cf20.ok := ⟨by decide, by decide, by decide, by decide, by decide, by decide, by decide⟩
theorem roots_one (r s : Int) : (Tr.of r s).roots = [r] := by simp [Tr.of, Tr.roots, keys, sortI]
theorem canonL20 (h : Int) : canonL (St.of cf20) h = [h, 0, 0, 1, 0, 1, 0, 1, 1, 1, 0, 1, 0, 0, 0, 0] := by
 unfold canonL
 rw [show (St.of cf20).tree.roots = [1] from roots_one 1 0]
 rfl
theorem num20 : (St.of cf20).num := by
 refine ⟨by decide, by decide, by decide, by decide, fun r => ?_, by decide, by decide⟩
 have h : (St.of cf20).tree.nd r = if r = 1 then ⟨1, 0, 0⟩ else Nd.zero := by
  show ((lk [((1 : Int), (⟨1, 0, 0⟩ : Nd))] r).getD Nd.zero) = _
  rw [lk_cons, lk_nil]
  split <;> rfl
 rw [h]
 split <;> decide
def x20 (h : Int) : List Int := bes [h, 0, 0, 1, 0, 1, 0, 1, 1, 1, 0, 1, 0, 0, 0, 0]
theorem x20_length (h : Int) : (x20 h).length = 128 := by rw [x20, bes_length]; rfl
theorem diff20 : diffB (x20 1) (x20 2) = ⟨#[104, 101, 97, 100]⟩ := by
 have h : firstB (x20 1) (x20 2) = 7 := by decide
 rw [diffB, h]
 rfl
theorem diff20' : diffB (x20 1) (x20 1) = ⟨#[]⟩ := by
 have h : firstB (x20 1) (x20 1) = -1 := by decide
 rw [diffB, h]
 rfl
theorem bytes20 : bytesW (x20 1) := by unfold bytesW; decide
theorem Of20 {w : World} {p : Places} {k vk : Nat} {ch : Value} (h : StoreAt w p (St.of cf20) k vk ch) (hd : Int) :
    Calls Tryz.prog 15 #[.pointer (some ⟨p.sb, 0, none⟩), .int .u64 hd] w fun e w' => ∃ A c, e = .returned (.slice A 128 c) ∧ Ints anyB .u8 w' A (x20 hd) ∧ Below w.heap.size w w' ∧ Fits 128 c :=
 (Of_calls h num20 hd).mono fun e w' ⟨A, c, h1, h2, h3, h4⟩ => by
   rw [canonL20 hd] at h1 h2 h4
   have hl : (bes [hd, 0, 0, 1, 0, 1, 0, 1, 1, 1, 0, 1, 0, 0, 0, 0]).length = 128 := x20_length hd
   rw [hl] at h1 h4
   exact ⟨A, c, h1, h2, h3, h4⟩
theorem Differ20 {w : World} {A A2 : Option Addr} {c c2 : Nat} {h2 : Int} (ha : Ints anyB .u8 w A (x20 1)) (hb : Ints anyB .u8 w A2 (x20 h2)) (hf : Fits 128 c) :
    Calls Tryz.prog 19 #[.slice A 128 c, .slice A2 128 c2] w fun e w' => e = .returned (.string (diffB (x20 1) (x20 h2))) ∧ Below w.heap.size w w' := by
 have := Differ_calls w A c (x20 1) A2 c2 (x20 h2) ha hb (by rw [x20_length]; exact hf) (by rw [x20_length]; decide) bytes20
 rwa [x20_length, x20_length] at this
theorem awake20_calls (w : World) : Calls Tryz.prog 10 #[] w fun e w' => e = .returned (.bool true) ∧ Below w.heap.size w w' := by
 have hb0 : Below w.heap.size w (w.alloc (.cells #[.int .u64 1] 23)) := below_alloc (Below.refl _ _) _
 have hI0 : Ints anyB .u64 (w.alloc (.cells #[.int .u64 1] 23)) (some ⟨w.heap.size, 0, none⟩) cf20.bal := ints_blk [1] (heap_new w _)
 have cS := SOf_calls (w.alloc (.cells #[.int .u64 1] 23)) cf20 (some ⟨w.heap.size, 0, none⟩) 1 cf20_ok hI0
 have tok : True := trivial
 go_enter Tryz.func10, Tryz.ntmps10
 go_upto_region 4 with (go_at_call 12; refine cS.mono ?_; rintro e w1 ⟨p, k, vk, rfl, hS, hp, hb1⟩; obtain ⟨_, _, _, x3, _⟩ := cs14 (show w1.heap[p.sb]? = some (.cells #[.slice (some ⟨p.bb, 0, none⟩) 1 k, .int .i64 4, .int .i64 0, .pointer (some ⟨p.tb, 0, none⟩), .slice (some ⟨p.vb, 0, none⟩) 1 vk, .int .i64 0, .int .u64 0, .int .i64 0, .int .u64 1, .int .i64 0, .int .u64 1, .map (some p.lb), .map (some p.gb), .slice none 0 0] _ _) from hS.blk))
 have hb1' : Below w.heap.size w w1 := below_then hb0 (by simp) hb1
 clear cS hI0 hb0 hb1 hp
 go_upto_region 5 with (first
  | (go_at_call 15; have _t := tok; refine (Of20 hS 1).mono ?_; rintro e w2 ⟨A1, c1, rfl, hI1, hb2, hf1⟩; clear _t tok)
  | (go_at_call 15; refine (Of20 (hS.below hb2) 2).mono ?_; rintro e w3 ⟨A2, c2, rfl, hI2, hb3, hf2⟩))
 have hI1' := hI1.below hb3
 have hbw := hb1'.trans ((below_trans hb2 hb3).mono hb1'.size)
 have tok : True := trivial
 go_wp2_with (first
  | (go_at_call 19; have _t := tok; refine (Differ20 hI1' hI2 hf1).mono ?_; rintro e w4 ⟨rfl, hb4⟩; rw [diff20]; clear _t tok)
  | (go_at_call 19; refine (Differ20 (hI1'.below hb4) (hI1'.below hb4) hf1).mono ?_; rintro e w5 ⟨rfl, hb5⟩; rw [diff20'])
  | (go_at_call 30; refine (Fields_calls _).mono ?_; rintro e w6 ⟨b6, t6, rfl, hblk6, hb6⟩))
 go_ret
 exact ⟨rfl, hbw.trans ((below_trans hb4 (below_trans hb5 hb6)).mono hbw.size)⟩
end Go.Proofs.YtnppimhlfcjghaaGreat
namespace Go.Proofs.YtnppimhlfcjghaaGreat
open Go.RowKit
theorem num_ok {s : St} (h : s.ok) : s.num :=
 ⟨⟨h.sl0, h.sl1⟩, h.je, h.fe, h.t.len, fun r => (Tr.nd_rng h.t r).2.1, by rw [h.vl]; exact h.c.l2, fun x hx => (h.ve x hx).1⟩
theorem cb_get : ∀ (ns : List Int) (p i : Nat) (x : Int), ns[p]? = some x → i < 8 → (bes ns)[8 * p + i]? = some (x / 2 ^ (56 - 8 * i) % 256)
 | [], p, i, x, h, _ => by simp at h
 | n :: ns, 0, i, x, h, hi => by
   obtain rfl : n = x := by simpa using h
   rw [bes, List.flatMap_cons, Nat.mul_zero, Nat.zero_add, List.getElem?_append_left (by rw [be8_length]; exact hi), be8_getElem n i hi]
 | n :: ns, p + 1, i, x, h, hi => by
   have h' : ns[p]? = some x := by simpa using h
   rw [bes, List.flatMap_cons, List.getElem?_append_right (by rw [be8_length]; omega), be8_length, show 8 * (p + 1) + i - 8 = 8 * p + i from by omega]
   exact cb_get ns p i x h' hi
theorem cb_val {ns : List Int} {p : Nat} {x : Int} (h : ns[p]? = some x) (h0 : 0 ≤ x) (h1 : x ≤ 18446744073709551615) : valK (bes ns) (8 * p) 8 = x := by
 have g := fun i hi => cb_get ns p i x h hi
 have e0 := g 0 (by decide)
 have e1 := g 1 (by decide)
 have e2 := g 2 (by decide)
 have e3 := g 3 (by decide)
 have e4 := g 4 (by decide)
 have e5 := g 5 (by decide)
 have e6 := g 6 (by decide)
 have e7 := g 7 (by decide)
 simp only [valK, e0, e1, e2, e3, e4, e5, e6, e7, Option.getD_some]
 simp only [Nat.reduceMul, Nat.reduceSub, Int.reducePow]
 omega
theorem cb_bytes (ns : List Int) : bytesW (bes ns) := by
 intro x hx
 obtain ⟨n, _, hn⟩ := List.mem_flatMap.1 hx
 obtain ⟨k, _, rfl⟩ := List.mem_map.1 hn
 exact ⟨Int.emod_nonneg _ (by decide), Int.emod_lt_of_pos _ (by decide)⟩
theorem canonL_length (s : St) (h : Int) : (canonL s h).length = 8 + 3 * s.tree.nodes.length + 1 + 4 * s.votes.length := by
 unfold canonL
 simp only [List.length_append, flat3, flat4, roots_length]
 rfl
structure CanR (N M : Nat) (xs : List Int) : Prop where
 len : xs.length = 8 * (8 + 3 * N + 1 + 4 * M)
 by_ : bytesW xs
 n : valK xs 56 8 = N
 m : valK xs (8 * (8 + 3 * N)) 8 = M
 N0 : N ≤ 1024
 M0 : M ≤ 4096
theorem canR {s : St} (hs : s.ok) (h : Int) : CanR s.tree.nodes.length s.c.bal.length (bes (canonL s h)) := by
 have h1 := hs.t.len
 have h2 := hs.c.l2
 refine ⟨by rw [bes_length, canonL_length, hs.vl], cb_bytes _, ?_, ?_, h1, h2⟩
 ·refine cb_val (p := 7) ?_ (by omega) (by omega)
  rfl
 ·refine cb_val (p := 8 + 3 * s.tree.nodes.length) ?_ (by omega) (by omega)
  unfold canonL
  rw [List.append_assoc, List.getElem?_append_right (by simp only [List.length_append, flat3, roots_length, canonH, List.length_cons, List.length_nil]; omega)]
  simp only [List.length_append, flat3, roots_length, canonH, List.length_cons, List.length_nil]
  rw [show 8 + 3 * s.tree.nodes.length - (0 + 1 + 1 + 1 + 1 + 1 + 1 + 1 + 1 + 3 * s.tree.nodes.length) = 0 from by omega]
  simp [hs.vl]
theorem apply_c (s : St) (e : Ev) : (applyS s e).1.1.c = s.c := by
 unfold applyS
 split
 ·split
  ·rfl
  ·split <;> rfl
 ·split
  ·split
   ·rw [proposeS_eq]
    split
    ·rw [raiseS_c]; exact prop4_c s e.block
    ·exact prop4_c s e.block
   ·rfl
  ·split
   ·exact attestS_c (s, []) e.vote false
   ·split
    ·exact slashS_c (s, []) e.proof
    ·rfl
def cnt (P : Int → Bool) (W : List Int) (i : Nat) : Nat := ((W.take i).filter P).length
end Go.Proofs.YtnppimhlfcjghaaGreat
namespace Go.Proofs.YtnppimhlfcjghaaGreat
open Go.RowKit
theorem run_str {w : World} {A : Option Addr} {n c : Nat} {bs : List Int} (h : Ints anyB .u8 w A bs) (hn : bs.length = n) : (convert 22 9 (.slice A n c)).run Tryz.prog w = .ok (.string (strOfNums bs)) w := by
 rcases A with _ | ⟨b, o, sp⟩
 ·have h0 : bs = [] := by
     rcases Nat.eq_zero_or_pos bs.length with h0 | h0
     ·exact List.eq_nil_of_length_eq_zero h0
     ·obtain ⟨b, o, he, _⟩ := h h0
      cases he
  subst h0
  exact run_convert_bytes_nil w 22 5 Tryz.underlying22 Tryz.underlying5 n c _ Tryz.underlying9
 ·rcases Nat.eq_zero_or_pos bs.length with h0 | h0
  ·obtain rfl := List.eq_nil_of_length_eq_zero h0
   subst hn
   rw [run_convert_bytes_string w _ _ _ _ _ _ Tryz.underlying22 Tryz.underlying5 Tryz.underlying9]
   simp [Conv.bytesToString, loadCells, loadCellsFrom, strOfNums]
   rfl
  ·obtain ⟨b', o', he, _⟩ := h h0
   cases he
   refine run_convert_bytes_arg w 22 5 Tryz.underlying22 Tryz.underlying5 b o n c bs hn (fun i hi => ?_) _ Tryz.underlying9
   obtain ⟨b2, o2, he, _, hc⟩ := h.get (j := i) (by omega)
   cases he
   exact hc
theorem strOfNums_append (a b : List Int) : strOfNums (a ++ b) = strOfNums a ++ strOfNums b := by
 apply ByteArray.ext
 simp [strOfNums]
theorem str_beq_self (s : ByteArray) : (s == s) = true := by
 show (s.data == s.data) = true
 simp
theorem Ints.drop {ok : Nat → Prop} {k : IntKind} {w : World} {b o m : Nat} {xs : List Int} (h : Ints ok k w (some ⟨b, o, none⟩) xs) (hn : 0 < xs.length) : Ints ok k w (some ⟨b, o + m, none⟩) (xs.drop m) := by
 intro h0
 obtain ⟨b', o', e, hb, hc⟩ := h hn
 injection e with e
 injection e with e1 e2 _
 subst e1 e2
 refine ⟨b, o + m, rfl, hb, fun j y hy => ?_⟩
 obtain ⟨cs, hK, hl, hu⟩ := hc (m + j) y (by rw [← List.getElem?_drop]; exact hy)
 refine ⟨cs, hK, hl, fun i u hi => ?_⟩
 have := hu i u hi
 rw [show o + m + (j * 1 + i) = o + ((m + j) * 1 + i) from by omega]
 exact this
theorem cmn_pre : ∀ (l1 l2 r r' : List Int), l1.length = l2.length → l1 ≠ l2 → cmn (l1 ++ r) (l2 ++ r') < l1.length
 | [], [], _, _, _, h => absurd rfl h
 | [], _ :: _, _, _, h, _ => by simp at h
 | _ :: _, [], _, _, h, _ => by simp at h
 | x :: l1, y :: l2, r, r', hl, h => by
   rw [List.cons_append, List.cons_append, cmn]
   split
   ·rename_i e
    have := cmn_pre l1 l2 r r' (by simpa using hl) (fun e2 => h (by rw [e, e2]))
    simp only [List.length_cons]; omega
   ·simp
theorem be8_inj {a b : Int} (ha : 0 ≤ a ∧ a ≤ 18446744073709551615) (hb : 0 ≤ b ∧ b ≤ 18446744073709551615) (h : be8 a = be8 b) : a = b := by
 have h1 := cb_val (ns := [a]) (p := 0) (x := a) rfl ha.1 ha.2
 have h2 := cb_val (ns := [b]) (p := 0) (x := b) rfl hb.1 hb.2
 rw [← h1, ← h2]
 simp only [bes, List.flatMap_cons, List.flatMap_nil, List.append_nil, h]
def canonT (s : St) : List Int := bes ((canonL s 0).drop 1)
theorem canonL_cons (s : St) (h : Int) : bes (canonL s h) = be8 h ++ canonT s := by
 unfold canonT canonL canonH
 simp [bes]
theorem canonT_drop (s : St) (h : Int) : (bes (canonL s h)).drop 8 = canonT s := by
 rw [canonL_cons, List.drop_left' (be8_length h)]
theorem head_diff {a b : Int} (ha : 0 ≤ a ∧ a ≤ 18446744073709551615) (hb : 0 ≤ b ∧ b ≤ 18446744073709551615) (hne : a ≠ b) (s : St) : diffB (bes (canonL s a)) (bes (canonL s b)) = ⟨#[104, 101, 97, 100]⟩ := by
 have hc : cmn (bes (canonL s a)) (bes (canonL s b)) < 8 := by
  rw [canonL_cons, canonL_cons]
  exact cmn_pre (be8 a) (be8 b) _ _ rfl (fun h => hne (be8_inj ha hb h))
 have hl : (bes (canonL s a)).length ≥ 8 := by rw [bes_length, canonL_length]; omega
 have hf : firstB (bes (canonL s a)) (bes (canonL s b)) = (cmn (bes (canonL s a)) (bes (canonL s b)) : Nat) := by
  unfold firstB
  rw [if_neg (by omega)]
 unfold diffB
 rw [hf]
 generalize cmn (bes (canonL s a)) (bes (canonL s b)) = n at hc
 rw [if_neg (by omega), if_pos (by simp only [Int.toNat_natCast]; omega)]
 rw [show ((n : Int).toNat / 8) = 0 from by simp only [Int.toNat_natCast]; omega]
 rfl
end Go.Proofs.YtnppimhlfcjghaaGreat
