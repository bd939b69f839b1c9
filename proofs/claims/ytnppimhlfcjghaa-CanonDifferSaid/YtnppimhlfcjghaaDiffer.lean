/- psephoslaw20.CanonDiffer. -/
import Derived.Test.YtnppimhlfcjghaaAwake20
namespace Go.Proofs.Ytnppimhlfcjghaa
open Go.RowKit
set_option maxRecDepth 100000
set_option maxHeartbeats 4000000
theorem str_bne_self (s : ByteArray) : (s != s) = false := by
  have h : (s == s) = true := by
    show (s.data == s.data) = true
    simp
  simp [bne, h]
theorem own_set {k : IntKind} {w : World} {base : Nat} {e : TypeId} {A : Option Addr} {c i : Nat} {y : Int} {xs : List Int} (h : w.ownsRow base e 1 (.slice A xs.length c) xs.length (xs.map (Value.int k))) (hi : i < xs.length) :
    ∃ g, A = some ⟨g, 0, none⟩ ∧ base ≤ g ∧ g < w.heap.size ∧ (∃ v, w.cell? ⟨g, i, none⟩ = some v) ∧ w.frozen? ⟨g, i, none⟩ = false ∧ Ints anyB k (w.setCell ⟨g, i, none⟩ (.int k y)) (some ⟨g, 0, none⟩) (xs.set i y) := by
  rcases h.2 with ⟨_, h0⟩ | ⟨g, cap, cur, he, hb, hh, h1, h2, h3, h4⟩
  · omega
  · injection he with e1 e2 e3
    subst e1
    have hsz : i < cur.size := by rw [h3]; omega
    refine ⟨g, rfl, hb, blk_lt hh, ⟨cur[i], by rw [blk_cell hh, Array.getElem?_eq_getElem hsz]⟩, blk_frozen hh i, fun _ => ⟨g, 0, rfl, trivial, fun j x hx => ⟨_, rfl, rfl, fun m u hm => ?_⟩⟩⟩
    have hj : j < xs.length := by have := (List.getElem?_eq_some_iff.1 hx).1; simpa using this
    match m, hm with
    | 0, hm =>
      obtain rfl : Value.int k x = u := by simpa using hm
      rw [blk_cell (blk_set hh i (.int k y)), show 0 + (j * 1 + 0) = j from by omega, Array.getElem?_setIfInBounds]
      by_cases hij : i = j
      · subst hij
        have : y = x := by rw [List.getElem?_set_self hi] at hx; simpa using hx
        subst this
        simp [hsz]
      · rw [if_neg hij]
        rw [List.getElem?_set_ne hij] at hx
        have h5 := congrArg (fun l => l[j]?) h4
        simp only [List.getElem?_map, hx, Option.map_some] at h5
        rw [List.getElem?_take_of_lt (by omega), Array.getElem?_toList] at h5
        exact h5
    | m + 1, hm => simp at hm
theorem CanonDiffer_calls (w : World) (A : Option Addr) (c : Nat) (a : List Int) (A2 : Option Addr) (c2 : Nat) (b : List Int) (x y : Int) (ha : Ints anyB .u8 w A a) (hf : Fits a.length c) (hw : ∀ x ∈ a, 0 ≤ x ∧ x < 256) (hal : a.length ≤ 140737488355328) (hb : Ints anyB .u8 w A2 b) (hf2 : Fits b.length c2) (_ : ∀ x ∈ b, 0 ≤ x ∧ x < 256) (hx : (Lit.int .u16 x).wf = true) (hy : (Lit.int .u8 y).wf = true) :
    Calls Try.prog 3 #[.slice A a.length c, .slice A2 b.length c2, .int .u16 x, .int .u8 y] w fun e w' => e = .returned (.bool true) ∧ Below w.heap.size w w' := by
  have hx' : 0 ≤ x ∧ x ≤ 65535 := by simp [Lit.wf, IntKind.min, IntKind.max, IntKind.bits, IntKind.signed] at hx; omega
  obtain ⟨hx0, hx1⟩ := hx'
  have hl : a.length ≤ 9223372036854775807 := by have := hf.2; unfold maxLen at this; omega
  go_enter Try.func3, Try.ntmps3
  go_upto_region 4 with (go_at_call 9; refine (awake20_calls _).mono ?_; rintro e w1 ⟨rfl, hb1⟩)
  have hN := heap_new w1 (.cells (fieldsL.map Value.string).toArray 9)
  have hb2 : Below w.heap.size w (w1.alloc (.cells (fieldsL.map Value.string).toArray 9)) := below_alloc' hb1 (Nat.le_refl _) _
  have ha2 := ha.below hb2
  have hbb2 := hb.below hb2
  change Code.wp _ _ _ _ (w1.alloc (.cells (fieldsL.map Value.string).toArray 9))
  generalize hNB : w1.heap.size = NB at hN ⊢
  have HNB := Lib.hid hNB
  obtain ⟨W2, hW2⟩ : ∃ W2, W2 = w1.alloc (.cells (fieldsL.map Value.string).toArray 9) := ⟨_, rfl⟩
  rw [← hW2] at hN hb2 ha2 hbb2 ⊢
  have hs2 : W2.heap.size = NB + 1 := by rw [hW2, ← hNB]; simp
  clear hW2 hNB hb1
  have hfl := Flat.of_ints ha2
  go_upto_if 27 with (at_builtin; refine wpList_app W2.heap.size rfl (.const (.slice none 0 0)) (.tmp 23) 22 5 (.int .u8 0) 1 1 rfl Try.underlying22 infoU8 rfl (by decide) (.slice none 0 0) 0 [] rfl (own_nil _ _ _ _) A a.length c (a.map (Value.int .u8)) rfl (by simp) hfl (by intro u hu; obtain ⟨x, _, rfl⟩ := List.mem_map.1 hu; rfl) (by omega) (by omega) (Nat.le_refl _) ?_; intro A3 c3 w3 hown hg3 _; simp only [Nat.zero_add, List.nil_append] at hown ⊢; have hb3 : Below W2.heap.size W2 w3 := (Below.refl _ W2).grown hg3 (Nat.le_refl _) (fun k hk => by simp [Value.ownBlock] at hk))
  go_cut [10] (fun t w' => ∃ (At : Option Addr) (ct : Nat) (T : List Int), t = .slice At T.length ct ∧ Ints anyB .u8 w' At T ∧ T.length = a.length ∧ Below W2.heap.size W2 w')
  case first =>
    by_cases hpos : 0 < a.length
    · have hnz : ¬ (a.length : Int) = 0 := by omega
      have hposz : (0 : Int) < a.length := by omega
      obtain ⟨m, hm⟩ : ∃ m : Nat, x.tmod a.length = m := ⟨(x % a.length).toNat, by rw [Int.tmod_eq_emod_of_nonneg hx0]; have := Int.emod_nonneg x hnz; omega⟩
      have hml : m < a.length := by
        have h1 := Int.emod_lt_of_pos x hposz
        rw [Int.tmod_eq_emod_of_nonneg hx0] at hm
        omega
      obtain ⟨g, rfl, hg, hgl, ⟨v0, hv0⟩, hfz, hI⟩ := own_set (y := y) hown hml
      go_wp2
      go_meet
      case rel => exact ⟨_, c3, a.set m y, by rw [List.length_set], hI, by rw [List.length_set], hb3.setCell hg _⟩
    · have h0 : ¬ (0 : Int) < a.length := by omega
      go_wp2
      go_meet
      case rel => exact ⟨A3, c3, a, rfl, (Ints.of_own hown).any, rfl, hb3⟩
  case rest =>
    obtain ⟨A4, c4, T, rfl, hIT, hTl, hb4⟩ := hcut
    obtain ⟨W4, rfl⟩ : ∃ W4 : World, W4 = wc := ⟨_, rfl⟩
    have hbw4 : Below w.heap.size w W4 := hb2.trans (hb4.mono hb2.size)
    have hN4 := blk_below hN hb4
    have hblk := heap_new W4 (.cells #[.slice A2 b.length c2, .slice A4 T.length c4, .slice A a.length c] 22)
    have hb5 : Below W4.heap.size W4 (W4.alloc (.cells #[.slice A2 b.length c2, .slice A4 T.length c4, .slice A a.length c] 22)) := below_alloc (Below.refl _ _) _
    have HX : Hid (∀ j, j < 3 → ∃ Ax cx X, (W4.alloc (.cells #[.slice A2 b.length c2, .slice A4 T.length c4, .slice A a.length c] 22)).cell? ⟨W4.heap.size, j, none⟩ = some (.slice Ax X.length cx) ∧ Ints anyB .u8 (W4.alloc (.cells #[.slice A2 b.length c2, .slice A4 T.length c4, .slice A a.length c] 22)) Ax X ∧ X.length ≤ maxLen) := fun j hj => by
      have h3 : j = 0 ∨ j = 1 ∨ j = 2 := by omega
      rcases h3 with rfl | rfl | rfl
      · exact ⟨A2, c2, b, blk_cell hblk 0, (hb.below hbw4).below hb5, hf2.2⟩
      · exact ⟨A4, c4, T, blk_cell hblk 1, hIT.below hb5, by rw [hTl]; exact hf.2⟩
      · exact ⟨A, c, a, blk_cell hblk 2, (ha.below hbw4).below hb5, hf.2⟩
    have hbw5 : Below w.heap.size w (W4.alloc (.cells #[.slice A2 b.length c2, .slice A4 T.length c4, .slice A a.length c] 22)) := hbw4.trans (hb5.mono hbw4.size)
    have hN5 := Lib.hid (blk_below hN4 hb5)
    have HA := Lib.hid (ha.below hbw5)
    clear hN4 hblk hb5 hbw4 hIT hTl hb4 ha hb hN hb2 ha2 hbb2 hs2 hfl
    go_wp2
    generalize hXB : W4.heap.size = XB at HX ⊢
    obtain ⟨W5, hW5⟩ : ∃ W5, W5 = W4.alloc (.cells #[.slice A2 b.length c2, .slice A4 T.length c4, .slice A a.length c] 22) := ⟨_, rfl⟩
    rw [← hW5] at HX hN5 HA hbw5 ⊢
    have HB5 := Lib.hid hbw5
    clear hW5 hXB hbw5
    go_loopw [41] (fun i wr => ∃ j : Nat, j ≤ 3 ∧ i = .int .i64 j ∧ Hid (Below W5.heap.size W5 wr)) (fun i _ => 3 - (intOf i).toNat)
    case atStart => exact ⟨0, by omega, rfl, Below.refl _ _⟩
    case round =>
      obtain ⟨j, hj, rfl, HW⟩ := hrel
      by_cases hlt : j < 3
      · obtain ⟨Ax, cx, X, hcell, hX, hXl⟩ := HX.out j hlt
        have hcell := cell_below hcell HW.out
        have hX := hX.below HW.out
        have haw := HA.out.below HW.out
        have cF := fun (W : World) (hW : Below wr.heap.size wr W) => First_calls W A c a Ax cx X (haw.below hW) (hX.below hW) hf.2 hXl
        have cD := fun (W : World) (hW : Below wr.heap.size wr W) => Differ_calls W A c a Ax cx X (haw.below hW) (hX.below hW) hf hXl hw
        have hR : Below wr.heap.size wr wr := Below.refl _ _
        have hXl' : X.length ≤ 9223372036854775807 := by unfold maxLen at hXl; omega
        rcases firstB_cases a X with h | ⟨n, h, hn⟩
        · have HD : Hid (diffB a X = ⟨#[]⟩) := by show _ = _; rw [diffB, h, if_pos (by decide)]
          have H := Lib.hid h
          clear h
          go_wp2_with (first
            | (go_at_call 10; refine (cF _ hR).mono ?_; rintro e w5 ⟨rfl, hb5⟩; rw [H.out])
            | (go_at_call 12; refine (cD _ hb5).mono ?_; rintro e w6 ⟨rfl, hb6⟩; rw [HD.out]))
          go_roundw
          case rel => exact ⟨j + 1, by omega, by go_num, HW.out.trans ((below_trans hb5 hb6).mono HW.out.size)⟩
          case measure => simp [intOf]; omega
        · have hq : ((n : Int)).tdiv 8 = ((n / 8 : Nat) : Int) := by
            rw [Int.tdiv_eq_ediv_of_nonneg (by omega)]
            omega
          have hnl : n ≤ 9223372036854775807 := by omega
          have hnh : (n : Int).toNat = n := by omega
          obtain ⟨k, hk⟩ : ∃ k, k = n / 8 := ⟨_, rfl⟩
          rw [← hk] at hq
          have HK := Lib.hid hk
          have hkn : k ≤ n := by omega
          have hneg : ¬ (n : Int) < 0 := by omega
          have H := Lib.hid h
          have HD0 : Hid (diffB a X = if k < 8 then fieldsL.getD k ⟨#[]⟩ else if 64 ≤ a.length ∧ ((k - 8) / 3 : Nat) < valK a 56 8 then ⟨#[98, 108, 111, 99, 107]⟩ else ⟨#[118, 111, 116, 101]⟩) := by
            show _ = _
            rw [diffB, h, if_neg hneg, hnh, ← hk]
          have hcn : k < 8 → wr.cell? ⟨NB, k, none⟩ = some (.string (fieldsL.getD k ⟨#[]⟩)) := fun h8 => by
            rw [blk_cell (blk_below hN5.out HW.out)]
            have hl : fieldsL.length = 8 := rfl
            simp [hl, h8]
          have hG := fun (hL : 64 ≤ a.length) (W : World) (hW : Below wr.heap.size wr W) => Get_hit W A a.length c a 56 (haw.below hW) hw rfl hl hf hL
          have hv := val8_le hw 56
          clear h hk
          by_cases h8 : k < 8
          · have hcn := hcn h8
            have HD : Hid (diffB a X = fieldsL.getD k ⟨#[]⟩) := by show _ = _; rw [HD0.out, if_pos h8]
            generalize fieldsL.getD k ⟨#[]⟩ = nm at hcn HD
            have hself := str_bne_self nm
            by_cases hL : 64 ≤ a.length
            · have hG := hG hL
              generalize valK a 56 8 = v at hG hv
              go_wp2_with (first
                | (go_at_call 10; refine (cF _ hR).mono ?_; rintro e w5 ⟨rfl, hb5⟩; rw [H.out]; have hc5 := cell_below hcn hb5)
                | (go_at_call 11; refine (hG _ hb5).mono ?_; rintro e w7 ⟨rfl, rfl⟩)
                | (go_at_call 12; refine (cD _ hb5).mono ?_; rintro e w6 ⟨rfl, hb6⟩; rw [HD.out]))
              go_roundw
              case rel => exact ⟨j + 1, by omega, by go_num, HW.out.trans ((below_trans hb5 hb6).mono HW.out.size)⟩
              case measure => simp [intOf]; omega
            · clear hG
              go_wp2_with (first
                | (go_at_call 10; refine (cF _ hR).mono ?_; rintro e w5 ⟨rfl, hb5⟩; rw [H.out]; have hc5 := cell_below hcn hb5)
                | (go_at_call 11; refine (Get_miss _ A a.length c 56 (by omega) hl (by decide)).mono ?_; rintro e w7 ⟨rfl, rfl⟩)
                | (go_at_call 12; refine (cD _ hb5).mono ?_; rintro e w6 ⟨rfl, hb6⟩; rw [HD.out]))
              go_roundw
              case rel => exact ⟨j + 1, by omega, by go_num, HW.out.trans ((below_trans hb5 hb6).mono HW.out.size)⟩
              case measure => simp [intOf]; omega
          · have hcn : True := trivial
            obtain ⟨m, hm⟩ : ∃ m, m = (k - 8) / 3 := ⟨_, rfl⟩
            have hm3 : ((k : Int) - 8).tdiv 3 = m := by
              rw [Int.tdiv_eq_ediv_of_nonneg (by omega)]
              omega
            rw [← hm] at HD0
            have hml : m ≤ k := by omega
            clear hm
            by_cases hL : 64 ≤ a.length
            · have hG := hG hL
              by_cases hlt2 : (m : Int) < valK a 56 8
              · have HD : Hid (diffB a X = ⟨#[98, 108, 111, 99, 107]⟩) := by show _ = _; rw [HD0.out, if_neg h8, if_pos ⟨hL, hlt2⟩]
                generalize valK a 56 8 = v at hG hv hlt2
                go_wp2_with (first
                  | (go_at_call 10; refine (cF _ hR).mono ?_; rintro e w5 ⟨rfl, hb5⟩; rw [H.out])
                  | (go_at_call 11; refine (hG _ hb5).mono ?_; rintro e w7 ⟨rfl, rfl⟩)
                  | (go_at_call 12; refine (cD _ hb5).mono ?_; rintro e w6 ⟨rfl, hb6⟩; rw [HD.out]))
                go_roundw
                case rel => exact ⟨j + 1, by omega, by go_num, HW.out.trans ((below_trans hb5 hb6).mono HW.out.size)⟩
                case measure => simp [intOf]; omega
              · have HD : Hid (diffB a X = ⟨#[118, 111, 116, 101]⟩) := by show _ = _; rw [HD0.out, if_neg h8, if_neg (fun h => hlt2 h.2)]
                generalize valK a 56 8 = v at hG hv hlt2
                go_wp2_with (first
                  | (go_at_call 10; refine (cF _ hR).mono ?_; rintro e w5 ⟨rfl, hb5⟩; rw [H.out])
                  | (go_at_call 11; refine (hG _ hb5).mono ?_; rintro e w7 ⟨rfl, rfl⟩)
                  | (go_at_call 12; refine (cD _ hb5).mono ?_; rintro e w6 ⟨rfl, hb6⟩; rw [HD.out]))
                go_roundw
                case rel => exact ⟨j + 1, by omega, by go_num, HW.out.trans ((below_trans hb5 hb6).mono HW.out.size)⟩
                case measure => simp [intOf]; omega
            · have HD : Hid (diffB a X = ⟨#[118, 111, 116, 101]⟩) := by show _ = _; rw [HD0.out, if_neg h8, if_neg (fun h => hL h.1)]
              clear hG
              go_wp2_with (first
                | (go_at_call 10; refine (cF _ hR).mono ?_; rintro e w5 ⟨rfl, hb5⟩; rw [H.out])
                | (go_at_call 11; refine (Get_miss _ A a.length c 56 (by omega) hl (by decide)).mono ?_; rintro e w7 ⟨rfl, rfl⟩)
                | (go_at_call 12; refine (cD _ hb5).mono ?_; rintro e w6 ⟨rfl, hb6⟩; rw [HD.out]))
              go_roundw
              case rel => exact ⟨j + 1, by omega, by go_num, HW.out.trans ((below_trans hb5 hb6).mono HW.out.size)⟩
              case measure => simp [intOf]; omega
      · obtain rfl : j = 3 := by omega
        have HB6 := Lib.hid (HB5.out.trans (HW.out.mono HB5.out.size))
        have hN6 := blk_below hN5.out HW.out
        go_wp2_with (go_at_call 13; refine (Fields_calls _).mono ?_; rintro e W7 ⟨b7, t7, rfl, hblk7, hb7⟩)
        have hN7 := Lib.hid (blk_below hN6 hb7)
        have hF7 := Lib.hid hblk7
        have HB7 := Lib.hid (HB6.out.trans (hb7.mono HB6.out.size))
        clear hN6 hblk7 hb7 HW hlt hj
        go_loopw [83] (fun i wr => ∃ j : Nat, j ≤ 8 ∧ i = .int .i64 j ∧ Hid (Below W7.heap.size W7 wr)) (fun i _ => 8 - (intOf i).toNat)
        case atStart => exact ⟨0, by omega, rfl, Below.refl _ _⟩
        case round =>
          obtain ⟨j, hj, rfl, HW⟩ := hrel
          by_cases hlt : j < 8
          · have hl : fieldsL.length = 8 := rfl
            have hc1 : wr.cell? ⟨b7, j, none⟩ = some (.string (fieldsL.getD j ⟨#[]⟩)) := by
              rw [blk_cell (blk_below hF7.out HW.out)]
              simp [hl, hlt]
            have hc2 : wr.cell? ⟨NB, j, none⟩ = some (.string (fieldsL.getD j ⟨#[]⟩)) := by
              rw [blk_cell (blk_below hN7.out HW.out)]
              simp [hl, hlt]
            generalize fieldsL.getD j ⟨#[]⟩ = nm at hc1 hc2
            have hself := str_bne_self nm
            clear hl
            have hgz : ¬ (8 : Int) ≤ (j : Int) := by omega
            go_upto_region 26 with fail
            go_quiet (fail)
            go_wp2
            go_roundw
            case rel => exact ⟨j + 1, by omega, by go_num, below_drewN HW.out _⟩
            case measure => simp [intOf]; omega
          · obtain rfl : j = 8 := by omega
            go_wp2
            go_ret
            exact ⟨rfl, HB7.out.trans (HW.out.mono HB7.out.size)⟩
end Go.Proofs.Ytnppimhlfcjghaa
