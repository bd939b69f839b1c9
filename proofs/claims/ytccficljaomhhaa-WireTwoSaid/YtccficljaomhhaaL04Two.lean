/- WireTwo, walked. -/
import Derived.Test.YtccficljaomhhaaL04a
namespace Go.Proofs.Ytccficljaomhhaa
open Go.RowKit
theorem encOk_append (a b : List Ev) (ha : a.length ≤ 100) (hb : b.length ≤ 100) : encOk (a ++ b) = (encOk a && encOk b) := by
  have h1 : decide ((a ++ b).length ≤ 4096) = true := by simp; omega
  have h2 : decide (a.length ≤ 4096) = true := by simp; omega
  have h3 : decide (b.length ≤ 4096) = true := by simp; omega
  simp only [encOk, h1, h2, h3, Bool.true_and, List.all_append]
theorem encN_append (a b : List Ev) : encN (a ++ b) = encN a ++ encN b := by simp [encN]
set_option maxRecDepth 100000 in
set_option maxHeartbeats 1000000 in
theorem WireTwo_calls (w : World) (A : Option Addr) (c : Nat) (a : List Ev) (A2 : Option Addr) (c2 : Nat) (b : List Ev) (ha : Evs anyB w A a) (hm : a.length ≤ maxLen) (_ : ∀ e ∈ a, e.wf) (hb : Evs anyB w A2 b) (hm2 : b.length ≤ maxLen) (_ : ∀ e ∈ b, e.wf) :
    Calls Try.prog 4 #[.slice A a.length c, .slice A2 b.length c2] w fun e w' => e = .returned (.bool true) ∧ Below w.heap.size w w' := by
  have hm' := hm
  have hm2' := hm2
  unfold maxLen at hm hm2
  by_cases hLa : a.length ≤ 100
  · by_cases hLb : b.length ≤ 100
    · have HOK := Lib.hid (encOk_append a b hLa hLb)
      have Hab := Lib.hid (encN_append a b)
      go_enter Try.func4, Try.ntmps4
      go_upto_region 5 with (go_at_call 9; refine (l04awake_calls _).mono ?_; rintro e w1 ⟨rfl, hb1⟩)
      go_wp2_with fail
      refine (wencode_calls _ A _ c a (ha.below hb1) rfl hm').mono ?_
      rintro en w2 ⟨hb2, hea⟩
      have hb12 := below_trans hb1 hb2
      obtain ⟨ra, na, ca, oa, rfl, HA⟩ : ∃ ra na ca oa, en = .returned (.tuple #[.slice ra na ca, .bool oa]) ∧ Hid (oa = encOk a ∧ (oa = true → Ints anyB .u8 w2 ra (bes (encN a)) ∧ (bes (encN a)).length = na)) := by
        rcases hea with ⟨h1, A', n', c', rfl, h2, h3⟩ | ⟨h1, rfl⟩
        · exact ⟨_, _, _, _, rfl, h1.symm, fun _ => ⟨h2, h3.out⟩⟩
        · exact ⟨_, _, _, _, rfl, h1.symm, fun h => by cases h⟩
      clear hea
      go_wp2_with fail
      refine (wencode_calls _ A2 _ c2 b (hb.below hb12) rfl hm2').mono ?_
      rintro en w3 ⟨hb3, hea⟩
      have hb13 := below_trans hb12 hb3
      obtain ⟨rb, nb, cb, ob, rfl, HB⟩ : ∃ ra na ca oa, en = .returned (.tuple #[.slice ra na ca, .bool oa]) ∧ Hid (oa = encOk b ∧ (oa = true → Ints anyB .u8 w3 ra (bes (encN b)) ∧ (bes (encN b)).length = na)) := by
        rcases hea with ⟨h1, A', n', c', rfl, h2, h3⟩ | ⟨h1, rfl⟩
        · exact ⟨_, _, _, _, rfl, h1.symm, fun _ => ⟨h2, h3.out⟩⟩
        · exact ⟨_, _, _, _, rfl, h1.symm, fun h => by cases h⟩
      clear hea
      obtain ⟨csa, hla, hfa, h1a, hKa⟩ := Lie.flat (ha.below hb13) (by decide) (fun x c h => EvK.one h)
      obtain ⟨csb, hlb, hfb, h1b, hKb⟩ := Lie.flat (hb.below hb13) (by decide) (fun x c h => EvK.one h)
      have hsz := hb13.size
      go_wp2_with (first | (at_builtin; refine wpList_app w3.heap.size rfl (.const (.slice none 0 0)) (.tmp 32) 22 38 _ 28 304 rfl Try.underlying22 infoEv rfl (by decide) (.slice none 0 0) 0 [] rfl (own_nil _ _ _ _) A a.length c csa rfl hla hfa h1a (by omega) (by omega) (by omega) ?_; intro A3 c3 w4 hown hg _; have hb4 : Below w3.heap.size w3 w4 := (Below.refl _ w3).grown hg (Nat.le_refl _) (fun k hk => by simp [Value.ownBlock] at hk)) | (at_builtin; refine wpList_app w3.heap.size rfl (.tmp 33) (.tmp 34) 22 38 _ 28 304 rfl Try.underlying22 infoEv rfl (by decide) _ (0 + a.length) ([] ++ csa) (by simp only [Nat.zero_add]; rfl) hown A2 b.length c2 csb rfl hlb (fun h => by obtain ⟨ad, e1, e2⟩ := hfb h; exact ⟨ad, e1, fun j u hu => cell_below (e2 j u hu) hb4⟩) h1b (by omega) (by omega) (by have := hb4.size; omega) ?_; intro A4 c4 w5 hown2 hg2 _))
      have hb5 : Below w3.heap.size w3 w5 := hb4.grown hg2 hb4.size (own_base hown)
      have hb15 : Below w.heap.size w w5 := below_trans hb13 hb5
      have hz : Evs anyB w5 A4 (a ++ b) := by
        refine (Lie.of_own hown2 (by decide) (by rw [List.length_append, Nat.zero_add]) (fun j x hx => ?_) (fun _ _ _ => trivial) : Lie anyB (EvK anyB w3) 28 w5 A4 (a ++ b)).mono (fun x cs _ h => EvK.mono h (fun _ x => x) (fun i _ hi => hb5.block i hi)) (fun _ x => x) (fun _ _ _ => rfl)
        rcases Nat.lt_or_ge j a.length with hj | hj
        · rw [List.getElem?_append_left hj] at hx
          have h1 : j * 28 + 28 ≤ csa.length := by rw [hla]; omega
          rw [List.nil_append, List.drop_append_of_le_length (by omega), List.take_append_of_le_length (by rw [List.length_drop]; omega)]
          exact hKa j x hx
        · rw [List.getElem?_append_right hj] at hx
          have := hKb _ x hx
          rw [List.nil_append, show j * 28 = csa.length + (j - a.length) * 28 from by rw [hla]; omega, ← List.drop_drop, List.drop_left]
          exact this
      refine (wencode_calls _ A4 _ c4 (a ++ b) hz (List.length_append) (by unfold maxLen; omega)).mono ?_
      rintro en w6 ⟨hb6, hea⟩
      obtain ⟨rz, nz, cz, oz, rfl, HZ⟩ : ∃ ra na ca oa, en = .returned (.tuple #[.slice ra na ca, .bool oa]) ∧ Hid (oa = encOk (a ++ b) ∧ (oa = true → Ints anyB .u8 w6 ra (bes (encN (a ++ b))) ∧ (bes (encN (a ++ b))).length = na)) := by
        rcases hea with ⟨h1, A', n', c', rfl, h2, h3⟩ | ⟨h1, rfl⟩
        · exact ⟨_, _, _, _, rfl, h1.symm, fun _ => ⟨h2, h3.out⟩⟩
        · exact ⟨_, _, _, _, rfl, h1.symm, fun h => by cases h⟩
      clear hea hown hown2 hg hg2 hfa hfb h1a h1b hKa hKb hla hlb hz hb hsz
      have hb16 := below_trans hb15 hb6
      have hb26 : Below w2.heap.size w2 w6 := below_trans hb3 (below_trans hb5 hb6)
      have hb36 : Below w3.heap.size w3 w6 := below_trans hb5 hb6
      have hZ1 := HZ.out.1
      rw [HOK.out, ← HA.out.1, ← HB.out.1] at hZ1
      cases oa with
      | false =>
        simp only [Bool.false_and] at hZ1
        subst hZ1
        go_wp2
        go_ret
        exact ⟨rfl, hb16⟩
      | true =>
        simp only [Bool.true_and] at hZ1
        subst hZ1
        cases oz with
        | false =>
          go_wp2
          go_ret
          exact ⟨rfl, hb16⟩
        | true =>
          obtain ⟨i1, l1⟩ := HA.out.2 rfl
          obtain ⟨i2, l2⟩ := HB.out.2 rfl
          obtain ⟨i3, l3⟩ := HZ.out.2 rfl
          have s1 := run_str (c := ca) (i1.below hb26) l1
          have s2 := run_str (c := cb) (i2.below hb36) l2
          have s3 := run_str (c := cz) i3 l3
          rw [Hab.out, bes_append, strOfNums_append] at s3
          have z1 := enc_size HA.out.1.symm
          have z2 := enc_size HB.out.1.symm
          rw [← strOfNums_size] at z1 z2
          clear i1 i2 i3 l1 l2 l3 HA HB HZ hm' hm2'
          obtain ⟨S1, hS1⟩ : ∃ S1, S1 = strOfNums (bes (encN a)) := ⟨_, rfl⟩
          obtain ⟨S2, hS2⟩ : ∃ S2, S2 = strOfNums (bes (encN b)) := ⟨_, rfl⟩
          rw [← hS1] at s1 s3 z1
          rw [← hS2] at s2 s3 z2
          have hzz : S1.size + S2.size ≤ 13107200000 := by omega
          clear hS1 hS2
          go_wp2
          go_ret
          exact ⟨rfl, hb16⟩
    · go_enter Try.func4, Try.ntmps4
      go_wp2_with (go_at_call 9; refine (l04awake_calls _).mono ?_; rintro e w1 ⟨rfl, hb1⟩)
      go_ret
      exact ⟨rfl, hb1⟩
  · go_enter Try.func4, Try.ntmps4
    go_wp2_with (go_at_call 9; refine (l04awake_calls _).mono ?_; rintro e w1 ⟨rfl, hb1⟩)
    go_ret
    exact ⟨rfl, hb1⟩
end Go.Proofs.Ytccficljaomhhaa
