/- octet: Put, Get, Small, First. -/
import Derived.Test.YtnppimhlfcjghaaProg
import Derived.Test.YtnppimhlfcjghaaBase
import Derived.KernelRfl
import Derived.WalkSpells
import Derived.WalkLawsBesides
namespace Go.Proofs.Ytnppimhlfcjghaa
open Go.RowKit
def be8 (n : Int) : List Int := [56, 48, 40, 32, 24, 16, 8, 0].map fun k => n / 2 ^ k % 256
def bes (ns : List Int) : List Int := ns.flatMap be8
theorem be8_length (n : Int) : (be8 n).length = 8 := rfl
theorem bes_length (ns : List Int) : (bes ns).length = 8 * ns.length := by induction ns <;> simp_all [bes, be8_length]; omega
theorem be8_getElem (n : Int) (i : Nat) (h : i < 8) : (be8 n)[i]? = some (n / 2 ^ (56 - 8 * i) % 256) := by
  match i, h with | 0, _ | 1, _ | 2, _ | 3, _ | 4, _ | 5, _ | 6, _ | 7, _ => rfl
theorem bes_snoc (ns : List Int) (j : Nat) (h : j < ns.length) : bes (ns.take (j + 1)) = bes (ns.take j) ++ be8 (ns[j]?.getD 0) := by
  simp only [bes, List.take_add_one, List.flatMap_append, List.getElem?_eq_getElem h]; simp
theorem infoU8 : (Try.prog.info? 5).map (fun i => (i.zero, i.size, i.bytes)) = some (some (.int .u8 0), 1, 1) := by kernel_rfl
abbrev u8s (xs : List Int) : List Value := xs.map (Value.int .u8)
set_option maxHeartbeats 400000 in
theorem Put_calls0 (w : World) (A : Option Addr) (c : Nat) (bs : List Int) (A2 : Option Addr) (c2 : Nat) (ns : List Int) (hb : Ints anyB .u8 w A bs) (hn : Ints anyB .u64 w A2 ns)
    (hl : bs.length + 8 * ns.length ≤ 140737488355328) :
    Calls Try.prog 55 #[.slice A bs.length c, .slice A2 ns.length c2] w fun e w' =>
      ∃ A' c', e = .returned (.slice A' (bs ++ bes ns).length c') ∧ w'.ownsRow w.heap.size 5 1 (.slice A' (bs ++ bes ns).length c') (bs ++ bes ns).length (u8s (bs ++ bes ns)) ∧ Below w.heap.size w w' := by
  obtain ⟨B, HB, hB1, hB2⟩ := size_hid w
  rw [HB.out]
  go_enter Try.func55, Try.ntmps55
  go_wp2_with (at_builtin; refine wpList_app B rfl _ _ 22 5 (.int .u8 0) 1 1 rfl Try.underlying22 infoU8 rfl (by decide) (.slice none 0 0) 0 [] rfl (own_nil _ _ _ _) A bs.length c (u8s bs) rfl (by simp) (Flat.of_ints hb) (by simp [Value.oneCell']) (by omega) (by omega) (by omega) ?_; intro A1 c1 w1 hown hg _)
  have hbel : Below B w w1 := (Below.refl _ w).grown hg hB2 (fun k hk => by simp [Value.ownBlock] at hk)
  simp only [Nat.zero_add, List.nil_append] at hown
  have HN : Hid (∀ j : Nat, j < ns.length → ∃ b o, A2 = some ⟨b, o, none⟩ ∧ b < B ∧ w.cell? ⟨b, o + j, none⟩ = some (.int .u64 (ns.getD j 0))) := fun j hj => by
    obtain ⟨b, o, h1, _, h2⟩ := hn.get hj
    exact ⟨b, o, h1, Nat.lt_of_lt_of_le (cell_lt h2) hB1, h2⟩
  clear hg hb hn
  go_loopw [5, 13] (fun v i wr => ∃ j : Nat, j ≤ ns.length ∧ i = .int .i64 j ∧ (∃ A' c', v = .slice A' (bs ++ bes (ns.take j)).length c') ∧ wr.ownsRow B 5 1 v (bs ++ bes (ns.take j)).length (u8s (bs ++ bes (ns.take j))) ∧ Below B w wr)
    (fun _ i _ => ns.length - (intOf i).toNat)
  case atStart => exact ⟨0, Nat.zero_le _, rfl, ⟨A1, c1, by simp [bes]⟩, by simpa [bes] using hown, hbel⟩
  case round =>
    clear hown hbel
    obtain ⟨j, hj, rfl, ⟨A', c', rfl⟩, hown, hbel⟩ := hrel
    by_cases hlt : j < ns.length
    · obtain ⟨b, o, rfl, hbB, hc⟩ := HN.out j hlt
      have hcell : wr.cell? ⟨b, o + j, none⟩ = some (.int .u64 (ns[j]?.getD 0)) := by
        rw [hbel.cell hbB, hc]; simp [List.getD_eq_getElem?_getD]
      obtain ⟨x, hx⟩ : ∃ x, x = ns[j]?.getD 0 := ⟨_, rfl⟩
      rw [← hx] at hcell
      have HX : Hid (x = ns[j]?.getD 0) := hx
      clear hx hc
      go_wp2
      obtain ⟨wo, rfl⟩ : ∃ wo : World, wo = wr := ⟨_, rfl⟩
      obtain ⟨L, HL⟩ : ∃ L, Hid (L = bs ++ bes (ns.take j)) := ⟨_, rfl⟩
      rw [← HL.out] at hown ⊢
      have hLl : L.length + 8 ≤ 140737488355328 := by rw [HL.out]; simp [bes_length]; omega
      have HL3 : Hid (∀ i, i ≤ 8 → (L ++ (be8 x).take i).length = L.length + i) := fun i hi => by simp [be8_length]; omega
      go_loopw [5, 8] (fun v kk wr => ∃ i : Nat, i ≤ 8 ∧ kk = .int .i64 (56 - 8 * i) ∧ (∃ A' c', v = .slice A' (L.length + i) c') ∧ wr.ownsRow B 5 1 v (L.length + i) (u8s (L ++ (be8 x).take i)) ∧ Below B w wr)
        (fun _ kk _ => (intOf kk + 8).toNat)
      case atStart => exact ⟨0, by omega, rfl, ⟨A', c', by simp⟩, by simpa using hown, hbel⟩
      case round =>
        clear hown hbel hcell
        obtain ⟨i, hi, rfl, ⟨A', c', rfl⟩, hown, hbel⟩ := hrel
        by_cases h8 : i < 8
        · go_wp2_with (at_builtin; refine wpList_app B rfl _ _ 22 5 (.int .u8 0) 1 1 rfl Try.underlying22 infoU8 rfl (by decide) _ (L.length + i) (u8s (L ++ (be8 x).take i)) rfl (hown.alloc _) (some ⟨wr.heap.size, 0, none⟩) 1 1 _ rfl rfl (Flat.one _ _ _) (by simp [Value.oneCell']) (by omega) (by omega) (by have := hbel.size; simp; omega) ?_; intro A2 c2 w2 hown2 hg2 _)
          go_roundw
          case rel =>
            refine ⟨i + 1, by omega, by go_num, ⟨A2, c2, rfl⟩, ?_, (below_alloc' hbel hB2 _).grown hg2 (by simp; have := hbel.size; omega) (own_base hown)⟩
            rw [List.take_add_one, be8_getElem x i h8, ← List.append_assoc]
            rw [← Nat.add_assoc]
            simpa using hown2
          case measure => simp [intOf]; omega
        · obtain rfl : i = 8 := by omega
          have hbs := bes_snoc ns j hlt
          rw [← HX.out] at hbs
          have HL2 : Hid (L ++ (be8 x).take 8 = bs ++ bes (ns.take (j + 1))) := by show _ = _; rw [hbs, HL.out, show (be8 x).take 8 = be8 x from rfl, List.append_assoc]
          clear hbs
          go_wp2
          go_roundw
          case rel =>
            have e8 := HL3.out 8 (by omega)
            rw [HL2.out] at hown e8
            exact ⟨j + 1, by omega, by go_num, ⟨A', c', by rw [e8]⟩, by rw [e8]; exact hown, hbel⟩
          case measure => simp [intOf]; omega
    · go_wp2
      go_ret
      obtain rfl : j = ns.length := by omega
      simp only [List.take_length] at hown ⊢
      exact ⟨A', c', rfl, hown, hbel⟩
theorem Put_calls (w : World) (A : Option Addr) (n c : Nat) (bs : List Int) (A2 : Option Addr) (n2 c2 : Nat) (ns : List Int) (hb : Ints anyB .u8 w A bs) (hn : Ints anyB .u64 w A2 ns) (e1 : bs.length = n) (e2 : ns.length = n2)
    (hl : bs.length + 8 * ns.length ≤ 140737488355328) :
    Calls Try.prog 55 #[.slice A n c, .slice A2 n2 c2] w fun e w' =>
      ∃ A' n' c', e = .returned (.slice A' n' c') ∧ w'.ownsRow w.heap.size 5 1 (.slice A' n' c') n' (u8s (bs ++ bes ns)) ∧ Below w.heap.size w w' := by
  subst e1 e2
  exact (Put_calls0 w A c bs A2 c2 ns hb hn hl).mono fun e w' ⟨A', c', h1, h2, h3⟩ => ⟨A', _, c', h1, h2, h3⟩
end Go.Proofs.Ytnppimhlfcjghaa
