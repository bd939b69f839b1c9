/- octet: Get and Small. -/
import Derived.Test.YtnppimhlfcjghaaOct
import Derived.Test.YtnppimhlfcjghaaEvt
import Derived.Laws.BitsAllLaws
namespace Go.Proofs.Ytnppimhlfcjghaa
open Go.RowKit
/-- What the first k bytes from o on make. -/
def valK (bs : List Int) (o : Nat) : Nat → Int
  | 0 => 0
  | k + 1 => valK bs o k * 256 + bs[o + k]?.getD 0
/-- The whole numbers of bytes. -/
def groups (bs : List Int) : List Int := (List.range (bs.length / 8)).map fun p => valK bs (8 * p) 8
theorem groups_length (bs : List Int) : (groups bs).length = bs.length / 8 := by simp [groups]
theorem groups_get (bs : List Int) (p : Nat) (h : 8 * p + 8 ≤ bs.length) : (groups bs)[p]? = some (valK bs (8 * p) 8) := by
  have : p < bs.length / 8 := by omega
  simp [groups, this]
def bytesW (bs : List Int) : Prop := ∀ x ∈ bs, 0 ≤ x ∧ x < 256
theorem byte_at {bs : List Int} (h : bytesW bs) (i : Nat) : 0 ≤ bs[i]?.getD 0 ∧ bs[i]?.getD 0 < 256 := by
  cases hi : bs[i]? with
  | none => simp
  | some x => exact h x (List.mem_of_getElem? hi)
theorem valK_lt {bs : List Int} (h : bytesW bs) (o k : Nat) : 0 ≤ valK bs o k ∧ valK bs o k < 256 ^ k := by
  induction k with
  | zero => simp [valK]
  | succ k ih =>
    have := byte_at h (o + k)
    rw [Int.pow_succ]
    simp only [valK]
    omega
theorem valK_le {bs : List Int} (h : bytesW bs) (o k : Nat) (hk : k < 8) : 0 ≤ valK bs o k ∧ valK bs o k < 72057594037927936 := by
  have h1 := valK_lt h o k
  refine ⟨h1.1, ?_⟩
  match k, hk with | 0, _ | 1, _ | 2, _ | 3, _ | 4, _ | 5, _ | 6, _ | 7, _ => omega
theorem val8_le {bs : List Int} (h : bytesW bs) (o : Nat) : 0 ≤ valK bs o 8 ∧ valK bs o 8 ≤ 18446744073709551615 := by
  have := valK_lt h o 8
  omega
theorem or_step {a c : Int} (h0 : 0 ≤ a) (h1 : a < 72057594037927936) (h2 : 0 ≤ c) (h3 : c < 256) : bits .or .u64 (a * 256) c = a * 256 + c := by
  rw [u64_or _ _ (by omega) (by omega) h2 (by omega)]
  obtain ⟨n, rfl⟩ := Int.eq_ofNat_of_zero_le h0
  obtain ⟨m, rfl⟩ := Int.eq_ofNat_of_zero_le h2
  have := Nat.two_pow_add_eq_or_of_lt (b := m) (i := 8) (by omega) n
  have e : ((n : Int) * 256).toNat = 2 ^ 8 * n := by omega
  rw [e, Int.toNat_natCast, ← this, Int.natCast_add, Int.natCast_mul]
  omega
set_option maxHeartbeats 400000 in
theorem Get_hit (w : World) (A : Option Addr) (n c : Nat) (bs : List Int) (q : Nat) (hb : Ints anyB .u8 w A bs) (hw : bytesW bs) (hn : bs.length = n) (hl : n ≤ 9223372036854775807) (hf : Fits n c) (hp : q + 8 ≤ n) :
    Calls Try.prog 11 #[.slice A n c, .int .i64 q] w fun e w' =>
      e = .returned (.tuple #[.int .u64 (valK bs q 8), .int .i64 (q + 8 : Nat), .bool true]) ∧ w' = w := by
  obtain ⟨b, o, rfl, _, _⟩ := hb.get (j := q) (by omega)
  have HC : Hid (∀ i : Nat, i < 8 → w.cell? ⟨b, o + q + i, none⟩ = some (.int .u8 (bs[q + i]?.getD 0))) := fun i hi => by
    obtain ⟨b', o', he, _, h⟩ := hb.get (j := q + i) (by omega)
    cases he
    rw [Nat.add_assoc, h, List.getD_eq_getElem?_getD]
  have hcap : n ≤ c := hf.1
  clear hb hf
  go_enter Try.func11, Try.ntmps11
  go_wp2
  go_loop [7, 26] (fun v i => ∃ k : Nat, k ≤ 8 ∧ v = .int .u64 (valK bs q k) ∧ i = .int .i64 k) (fun _ i => 8 - (intOf i).toNat)
  case atStart => exact ⟨0, by omega, rfl, rfl⟩
  case round =>
    obtain ⟨k, hk, rfl, rfl⟩ := hrel
    by_cases hlt : k < 8
    · have hc := HC.out k hlt
      have hx := byte_at hw (q + k)
      have hv := valK_le hw q k hlt
      have HV : Hid (valK bs q (k + 1) = valK bs q k * 256 + bs[q + k]?.getD 0) := rfl
      generalize bs[q + k]?.getD 0 = x at hc hx HV
      generalize valK bs q k = y at hv HV ⊢
      have hor := or_step hv.1 hv.2 hx.1 hx.2
      go_wp2
      go_round
      case rel => exact ⟨k + 1, by omega, by rw [HV.out], by go_num⟩
      case measure => simp [intOf]; omega
    · obtain rfl : k = 8 := by omega
      go_wp2
      go_ret3
      exact ⟨rfl, rfl⟩
theorem Get_miss (w : World) (A : Option Addr) (n c : Nat) (q : Nat) (hp : ¬ q + 8 ≤ n) (hl : n ≤ 9223372036854775807) (hl2 : q ≤ 9223372036854775807) :
    Calls Try.prog 11 #[.slice A n c, .int .i64 q] w fun e w' =>
      e = .returned (.tuple #[.int .u64 0, .int .i64 q, .bool false]) ∧ w' = w := by
  have h1 : decide ((n : Int) - 8 < q) = true := by simp; omega
  go_enter Try.func11, Try.ntmps11
  go_wp2
  go_ret3
  exact ⟨rfl, rfl⟩
end Go.Proofs.Ytnppimhlfcjghaa
