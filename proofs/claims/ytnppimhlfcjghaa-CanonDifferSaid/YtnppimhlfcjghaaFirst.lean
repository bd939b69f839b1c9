/- octet.First. -/
import Derived.Test.YtnppimhlfcjghaaOct
import Derived.Test.YtnppimhlfcjghaaEvt
import Derived.Deep.RegionHeld3
import Derived.Deep.RegionLaw
import Derived.Deep.CutBlock
import Derived.Deep.DrawnRows
import Derived.BigQuiet
import Derived.Deep.DeepCutAuto
namespace Go.Proofs.Ytnppimhlfcjghaa
open Go.RowKit
/-- How many of the first bytes are the same. -/
def cmn : List Int → List Int → Nat
  | x :: a, y :: b => if x = y then cmn a b + 1 else 0
  | _, _ => 0
theorem cmn_le : ∀ (a b : List Int), cmn a b ≤ a.length ∧ cmn a b ≤ b.length
  | [], _ => by simp [cmn]
  | _ :: _, [] => by simp [cmn]
  | x :: a, y :: b => by
    have := cmn_le a b
    simp only [cmn]
    split <;> simp <;> omega
theorem cmn_at : ∀ (a b : List Int) (k : Nat), k < a.length → k < b.length → (∀ j, j < k → a[j]? = b[j]?) → a[k]? ≠ b[k]? → cmn a b = k
  | [], _, k, h, _, _, _ => by simp at h
  | _ :: _, [], k, _, h, _, _ => by simp at h
  | x :: a, y :: b, 0, _, _, _, hne => by
    simp only [cmn]
    rw [if_neg]
    intro h
    exact hne (by simp [h])
  | x :: a, y :: b, k + 1, h1, h2, he, hne => by
    have h0 : x = y := by simpa using he 0 (by omega)
    simp only [cmn]
    rw [if_pos h0, cmn_at a b k (by simpa using h1) (by simpa using h2) (fun j hj => by simpa using he (j + 1) (by omega)) (by simpa using hne)]
theorem cmn_all : ∀ (a b : List Int), (∀ j, j < min a.length b.length → a[j]? = b[j]?) → cmn a b = min a.length b.length
  | [], _, _ => by simp [cmn]
  | _ :: _, [], _ => by simp [cmn]
  | x :: a, y :: b, he => by
    have h0 : x = y := by simpa using he 0 (by simp)
    simp only [cmn]
    rw [if_pos h0, cmn_all a b (fun j hj => by simpa using he (j + 1) (by simp; omega))]
    simp
def firstB (a b : List Int) : Int := if cmn a b = a.length ∧ cmn a b = b.length then -1 else cmn a b
set_option maxHeartbeats 400000 in
theorem First_calls (w : World) (A : Option Addr) (c : Nat) (a : List Int) (A2 : Option Addr) (c2 : Nat) (b : List Int) (ha : Ints anyB .u8 w A a) (hb : Ints anyB .u8 w A2 b) (hl : a.length ≤ maxLen) (hl2 : b.length ≤ maxLen) :
    Calls Try.prog 10 #[.slice A a.length c, .slice A2 b.length c2] w fun e w' => e = .returned (.int .i64 (firstB a b)) ∧ Below w.heap.size w w' := by
  unfold maxLen at hl hl2
  obtain ⟨m, hm⟩ : ∃ m, m = min a.length b.length := ⟨_, rfl⟩
  have hma : m ≤ a.length := by omega
  have hmb : m ≤ b.length := by omega
  have HM := Lib.hid hm
  have hmi : (min (a.length : Int) (b.length : Int)) = m := by omega
  have HN : Hid (∀ j : Nat, j < m → ∃ b1 o1 b2 o2, A = some ⟨b1, o1, none⟩ ∧ A2 = some ⟨b2, o2, none⟩ ∧ w.cell? ⟨b1, o1 + j, none⟩ = some (.int .u8 (a.getD j 0)) ∧ w.cell? ⟨b2, o2 + j, none⟩ = some (.int .u8 (b.getD j 0))) := fun j hj => by
    obtain ⟨b1, o1, h1, _, h2⟩ := ha.get (j := j) (by omega)
    obtain ⟨b2, o2, h3, _, h4⟩ := hb.get (j := j) (by omega)
    exact ⟨b1, o1, b2, o2, h1, h3, h2, h4⟩
  clear ha hb hm
  go_enter Try.func10, Try.ntmps10
  go_upto_region 1 with fail
  go_cut [10, 11] (fun u v w' => u = .int .i64 m ∧ v = .int .i64 0 ∧ w = w')
  case first =>
    go_wp2
    all_goals
      go_meet
      case rel =>
        have := HM.out
        refine ⟨?_, rfl, rfl⟩
        congr 1
        omega
  case rest =>
    obtain ⟨rfl, rfl, rfl⟩ := hcut
    go_wp2_with fail
    go_loopw [11] (fun i wr => ∃ k : Nat, k ≤ m ∧ i = .int .i64 k ∧ Hid (∀ j, j < k → a[j]? = b[j]?) ∧ Hid (∃ q, wr = w.drewN q)) (fun i _ => m - (intOf i).toNat)
    case atStart => exact ⟨0, Nat.zero_le _, rfl, fun j hj => by omega, 0, rfl⟩
    case round =>
      obtain ⟨k, hk, rfl, HE, HQ⟩ := hrel
      have hbw : Below w.heap.size w wr := by
        obtain ⟨q, rfl⟩ := HQ.out
        exact below_drewN (Below.refl _ _) q
      by_cases hlt : k < m
      · obtain ⟨b1, o1, b2, o2, rfl, rfl, p1, p2⟩ := HN.out k hlt
        obtain ⟨q, rfl⟩ := HQ.out
        have ga : a[k]? = some (a.getD k 0) := by rw [List.getD_eq_getElem?_getD, List.getElem?_eq_getElem (by omega)]; rfl
        have gb : b[k]? = some (b.getD k 0) := by rw [List.getD_eq_getElem?_getD, List.getElem?_eq_getElem (by omega)]; rfl
        generalize a.getD k 0 = x at p1 ga
        generalize b.getD k 0 = y at p2 gb
        have GA := Lib.hid ga
        have GB := Lib.hid gb
        clear ga gb
        by_cases hxy : x = y
        · subst hxy
          go_upto_region 4 with fail
          go_quiet (fail)
          go_wp2
          go_roundw
          case rel =>
            refine ⟨k + 1, by omega, by go_num, ?_, ?_⟩
            · intro j hj
              rcases Nat.lt_or_ge j k with h | h
              · exact HE.out j h
              · obtain rfl : j = k := by omega
                rw [GA.out, GB.out]
            · exact ⟨q + nq, rfl⟩
          case measure => simp [intOf]; omega
        · have hne : (x == y) = false := by simp [hxy]
          have hnb : (x != y) = true := by simp [hxy]
          go_upto_region 4 with fail
          go_quiet (fail)
          go_wp2
          go_ret
          have hc := cmn_at a b k (by omega) (by omega) HE.out (by rw [GA.out, GB.out]; intro h; exact hxy (Option.some.inj h))
          refine ⟨?_, ?_⟩
          · rw [firstB, hc, if_neg (by omega)]
            rfl
          · exact below_drewN (below_drewN (Below.refl _ _) q) nq
      · obtain rfl : k = m := by omega
        have hm := HM.out
        have hc := cmn_all a b (by rw [← hm]; exact HE.out)
        rw [← hm] at hc
        have HC := Lib.hid hc
        clear hc hm
        by_cases hab : a.length = b.length
        · go_wp2
          go_ret
          refine ⟨?_, hbw⟩
          have := HM.out
          rw [firstB, HC.out, if_pos (by omega)]
          rfl
        · go_wp2
          all_goals
            go_ret
            refine ⟨?_, hbw⟩
            have := HM.out
            rw [firstB, HC.out, if_neg (by omega)]
            show Ending.returned (Value.int .i64 _) = _
            congr 2
            omega
end Go.Proofs.Ytnppimhlfcjghaa
