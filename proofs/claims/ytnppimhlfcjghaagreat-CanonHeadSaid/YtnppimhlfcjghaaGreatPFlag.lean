import Derived.Test.YtnppimhlfcjghaaGreatPLeaf
import Derived.Test.YtnppimhlfcjghaaGreatProg
import Derived.Test.YtnppimhlfcjghaaGreatPBase
import Derived.KernelRfl
import Derived.WalkSpells
import Derived.WalkLawsBesides
import Derived.Test.YtnppimhlfcjghaaGreatPAdv
import Derived.Test.YtnppimhlfcjghaaGreatPSorted
set_option linter.all false
set_option linter.unusedVariables false
set_option linter.unusedSimpArgs false
namespace Go.Proofs.YtnppimhlfcjghaaGreat
open Go.RowKit
theorem flag_calls (w : World) (b : Bool) : Calls Tryz.prog 43 #[.bool b] w fun e w' => e = .returned (.int .u64 (if b then 1 else 0)) ∧ w = w' := by
 cases b
 ·go_enter Tryz.func43, Tryz.ntmps43
  go_wp2
  go_ret
  exact ⟨rfl, rfl⟩
 ·go_enter Tryz.func43, Tryz.ntmps43
  go_wp2
  go_ret
  exact ⟨rfl, rfl⟩
end Go.Proofs.YtnppimhlfcjghaaGreat
namespace Go.Proofs.YtnppimhlfcjghaaGreat
open Go.RowKit
def be8 (n : Int) : List Int := [56, 48, 40, 32, 24, 16, 8, 0].map fun k => n / 2 ^ k % 256
def bes (ns : List Int) : List Int := ns.flatMap be8
theorem be8_length (n : Int) : (be8 n).length = 8 := rfl
theorem bes_length (ns : List Int) : (bes ns).length = 8 * ns.length := by induction ns <;> simp_all [bes, be8_length]; omega
theorem be8_getElem (n : Int) (i : Nat) (h : i < 8) : (be8 n)[i]? = some (n / 2 ^ (56 - 8 * i) % 256) := by
 match i, h with | 0, _ | 1, _ | 2, _ | 3, _ | 4, _ | 5, _ | 6, _ | 7, _ => rfl
theorem bes_snoc (ns : List Int) (j : Nat) (h : j < ns.length) : bes (ns.take (j + 1)) = bes (ns.take j) ++ be8 (ns[j]?.getD 0) := by
 simp only [bes, List.take_add_one, List.flatMap_append, List.getElem?_eq_getElem h]; simp
theorem infoU8 : (Tryz.prog.info? 5).map (fun i => (i.zero, i.size, i.bytes)) = some (some (.int .u8 0), 1, 1) := by kernel_rfl
abbrev u8s (xs : List Int) : List Value := xs.map (Value.int .u8)
set_option maxHeartbeats 400000 in
theorem Put_calls0 (w : World) (A : Option Addr) (c : Nat) (bs : List Int) (A2 : Option Addr) (c2 : Nat) (ns : List Int) (hb : Ints anyB .u8 w A bs) (hn : Ints anyB .u64 w A2 ns)
    (hl : bs.length + 8 * ns.length ≤ 140737488355328) :
    Calls Tryz.prog 40 #[.slice A bs.length c, .slice A2 ns.length c2] w fun e w' =>
     ∃ A' c', e = .returned (.slice A' (bs ++ bes ns).length c') ∧ w'.ownsRow w.heap.size 5 1 (.slice A' (bs ++ bes ns).length c') (bs ++ bes ns).length (u8s (bs ++ bes ns)) ∧ Below w.heap.size w w' := by
 obtain ⟨B, HB, hB1, hB2⟩ := size_hid w
 rw [HB.out]
 go_enter Tryz.func40, Tryz.ntmps40
 go_wp2_with (at_builtin; refine wpList_app B rfl _ _ 22 5 (.int .u8 0) 1 1 rfl Tryz.underlying22 infoU8 rfl (by decide) (.slice none 0 0) 0 [] rfl (own_nil _ _ _ _) A bs.length c (u8s bs) rfl (by simp) (Flat.of_ints hb) (by simp [Value.oneCell']) (by omega) (by omega) (by omega) ?_; intro A1 c1 w1 hown hg _)
 have hbel : Below B w w1 := (Below.refl _ w).grown hg hB2 (fun k hk => by simp [Value.ownBlock] at hk)
 simp only [Nat.zero_add, List.nil_append] at hown
 have HN : Hid (∀ j : Nat, j < ns.length → ∃ b o, A2 = some ⟨b, o, none⟩ ∧ b < B ∧ w.cell? ⟨b, o + j, none⟩ = some (.int .u64 (ns.getD j 0))) := fun j hj => by
  obtain ⟨b, o, h1, _, h2⟩ := hn.get hj
  exact ⟨b, o, h1, Nat.lt_of_lt_of_le (cell_lt h2) hB1, h2⟩
 clear hg hb hn
 go_loopw [5, 13] (fun v i wr => ∃ j : Nat, j ≤ ns.length ∧ i = .int .i64 j ∧ (∃ A' c', v = .slice A' (bs ++ bes (ns.take j)).length c') ∧ wr.ownsRow B 5 1 v (bs ++ bes (ns.take j)).length (u8s (bs ++ bes (ns.take j))) ∧ Below B w wr)
  (fun _ i _ => ns.length - (intOf i).toNat)
 case atStart => exact ⟨0, Nat.zero_le _, rfl, ⟨A1, c1, by simp [bes]⟩, by simpa [bes] using hown, hbel⟩
 case round =>
  clear hown hbel
  obtain ⟨j, hj, rfl, ⟨A', c', rfl⟩, hown, hbel⟩ := hrel
  by_cases hlt : j < ns.length
  ·obtain ⟨b, o, rfl, hbB, hc⟩ := HN.out j hlt
   have hcell : wr.cell? ⟨b, o + j, none⟩ = some (.int .u64 (ns[j]?.getD 0)) := by
    rw [hbel.cell hbB, hc]; simp [List.getD_eq_getElem?_getD]
   obtain ⟨x, hx⟩ : ∃ x, x = ns[j]?.getD 0 := ⟨_, rfl⟩
   rw [← hx] at hcell
   have HX : Hid (x = ns[j]?.getD 0) := hx
   clear hx hc
   go_wp2
   obtain ⟨wo, rfl⟩ : ∃ wo : World, wo = wr := ⟨_, rfl⟩
   obtain ⟨L, HL⟩ : ∃ L, Hid (L = bs ++ bes (ns.take j)) := ⟨_, rfl⟩
   rw [← HL.out] at hown ⊢
   have hLl : L.length + 8 ≤ 140737488355328 := by rw [HL.out]; simp [bes_length]; omega
   have HL3 : Hid (∀ i, i ≤ 8 → (L ++ (be8 x).take i).length = L.length + i) := fun i hi => by simp [be8_length]; omega
   go_loopw [5, 8] (fun v kk wr => ∃ i : Nat, i ≤ 8 ∧ kk = .int .i64 (56 - 8 * i) ∧ (∃ A' c', v = .slice A' (L.length + i) c') ∧ wr.ownsRow B 5 1 v (L.length + i) (u8s (L ++ (be8 x).take i)) ∧ Below B w wr)
    (fun _ kk _ => (intOf kk + 8).toNat)
   case atStart => exact ⟨0, by omega, rfl, ⟨A', c', by simp⟩, by simpa using hown, hbel⟩
   case round =>
    clear hown hbel hcell
    obtain ⟨i, hi, rfl, ⟨A', c', rfl⟩, hown, hbel⟩ := hrel
    by_cases h8 : i < 8
    ·go_wp2_with (at_builtin; refine wpList_app B rfl _ _ 22 5 (.int .u8 0) 1 1 rfl Tryz.underlying22 infoU8 rfl (by decide) _ (L.length + i) (u8s (L ++ (be8 x).take i)) rfl (hown.alloc _) (some ⟨wr.heap.size, 0, none⟩) 1 1 _ rfl rfl (Flat.one _ _ _) (by simp [Value.oneCell']) (by omega) (by omega) (by have := hbel.size; simp; omega) ?_; intro A2 c2 w2 hown2 hg2 _)
     go_roundw
     case rel =>
      refine ⟨i + 1, by omega, by go_num, ⟨A2, c2, rfl⟩, ?_, (below_alloc' hbel hB2 _).grown hg2 (by simp; have := hbel.size; omega) (own_base hown)⟩
      rw [List.take_add_one, be8_getElem x i h8, ← List.append_assoc]
      rw [← Nat.add_assoc]
      simpa using hown2
     case measure => simp [intOf]; omega
    ·obtain rfl : i = 8 := by omega
     have hbs := bes_snoc ns j hlt
     rw [← HX.out] at hbs
     have HL2 : Hid (L ++ (be8 x).take 8 = bs ++ bes (ns.take (j + 1))) := by show _ = _; rw [hbs, HL.out, show (be8 x).take 8 = be8 x from rfl, List.append_assoc]
     clear hbs
     go_wp2
     go_roundw
     case rel =>
      have e8 := HL3.out 8 (by omega)
      rw [HL2.out] at hown e8
      exact ⟨j + 1, by omega, by go_num, ⟨A', c', by rw [e8]⟩, by rw [e8]; exact hown, hbel⟩
     case measure => simp [intOf]; omega
  ·go_wp2
   go_ret
   obtain rfl : j = ns.length := by omega
   simp only [List.take_length] at hown ⊢
   exact ⟨A', c', rfl, hown, hbel⟩
theorem Put_calls (w : World) (A : Option Addr) (n c : Nat) (bs : List Int) (A2 : Option Addr) (n2 c2 : Nat) (ns : List Int) (hb : Ints anyB .u8 w A bs) (hn : Ints anyB .u64 w A2 ns) (e1 : bs.length = n) (e2 : ns.length = n2)
    (hl : bs.length + 8 * ns.length ≤ 140737488355328) :
    Calls Tryz.prog 40 #[.slice A n c, .slice A2 n2 c2] w fun e w' =>
     ∃ A' n' c', e = .returned (.slice A' n' c') ∧ w'.ownsRow w.heap.size 5 1 (.slice A' n' c') n' (u8s (bs ++ bes ns)) ∧ Below w.heap.size w w' := by
 subst e1 e2
 exact (Put_calls0 w A c bs A2 c2 ns hb hn hl).mono fun e w' ⟨A', c', h1, h2, h3⟩ => ⟨A', _, c', h1, h2, h3⟩
end Go.Proofs.YtnppimhlfcjghaaGreat
namespace Go.Proofs.YtnppimhlfcjghaaGreat
open Go.RowKit
set_option maxRecDepth 100000
set_option maxHeartbeats 4000000
def canonN (t : Tr) (r : Int) : List Int := [r, (t.nd r).parent, (t.nd r).slot]
def bitN (b : Bool) : Int := if b then 1 else 0
def canonE (x : En) : List Int := [bitN x.has, x.epoch, x.root, bitN x.banned]
def canonH (s : St) (head : Int) : List Int := [head, s.slot, s.just.e, s.just.r, s.fin.e, s.fin.r, s.boosted, (s.tree.nodes.length : Int)]
def canonL (s : St) (head : Int) : List Int := (canonH s head ++ s.tree.roots.flatMap (canonN s.tree)) ++ [(s.votes.length : Int)] ++ s.votes.flatMap canonE
theorem bes_append (a b : List Int) : bes (a ++ b) = bes a ++ bes b := by simp [bes]
def RetBytes (xs : List Int) (w : World) (e : Ending) (w' : World) : Prop := ∃ A c, e = .returned (.slice A xs.length c) ∧ Ints anyB .u8 w' A xs ∧ Below w.heap.size w w' ∧ Fits xs.length c
theorem own_fits {w : World} {base n : Nat} {e : TypeId} {A : Option Addr} {m c : Nat} {xs : List Value} (h : w.ownsRow base e 1 (.slice A m c) n xs) : Fits n c := by
 rcases h.2 with ⟨he, h0⟩ | ⟨g, cap, cur, he, _, _, h1, h2, _⟩
 ·injection he with _ _ e3
  exact ⟨by omega, by unfold maxLen; omega⟩
 ·injection he with _ _ e3
  subst e3
  exact ⟨h1, by omega⟩
theorem Put_ret (w : World) (A : Option Addr) (n c : Nat) (bs : List Int) (A2 : Option Addr) (n2 c2 : Nat) (ns : List Int) (hb : Ints anyB .u8 w A bs) (hn : Ints anyB .u64 w A2 ns) (e1 : bs.length = n) (e2 : ns.length = n2)
    (hl : bs.length + 8 * ns.length ≤ 140737488355328) : Calls Tryz.prog 40 #[.slice A n c, .slice A2 n2 c2] w (RetBytes (bs ++ bes ns) w) :=
 (Put_calls w A n c bs A2 n2 c2 ns hb hn e1 e2 hl).mono fun e w' ⟨A', n', c', h1, h2, h3⟩ => by
   have hl : (bs ++ bes ns).length = n' := by have := h2.1; simpa [u8s] using this
   subst hl
   exact ⟨A', c', h1, (Ints.of_own h2).any, h3, own_fits h2⟩
theorem cs14 {w : World} {b : Nat} {T : TypeId} {f : Nat × Nat} {a0 a1 a2 a3 a4 a5 a6 a7 a8 a9 a10 a11 a12 a13 : Value} (h : w.heap[b]? = some (.cells #[a0, a1, a2, a3, a4, a5, a6, a7, a8, a9, a10, a11, a12, a13] T f)) : w.cell? ⟨b, 0, none⟩ = some a0 ∧ w.cell? ⟨b, 1, none⟩ = some a1 ∧ w.cell? ⟨b, 2, none⟩ = some a2 ∧ w.cell? ⟨b, 3, none⟩ = some a3 ∧ w.cell? ⟨b, 4, none⟩ = some a4 ∧ w.cell? ⟨b, 5, none⟩ = some a5 ∧ w.cell? ⟨b, 6, none⟩ = some a6 ∧ w.cell? ⟨b, 7, none⟩ = some a7 ∧ w.cell? ⟨b, 8, none⟩ = some a8 ∧ w.cell? ⟨b, 9, none⟩ = some a9 ∧ w.cell? ⟨b, 10, none⟩ = some a10 ∧ w.cell? ⟨b, 11, none⟩ = some a11 ∧ w.cell? ⟨b, 12, none⟩ = some a12 ∧ w.cell? ⟨b, 13, none⟩ = some a13 :=
 ⟨blk_cell h 0, blk_cell h 1, blk_cell h 2, blk_cell h 3, blk_cell h 4, blk_cell h 5, blk_cell h 6, blk_cell h 7, blk_cell h 8, blk_cell h 9, blk_cell h 10, blk_cell h 11, blk_cell h 12, blk_cell h 13⟩
theorem heap_newD (w : World) (o : Obj) : (w.alloc o).drew.heap[w.heap.size]? = some o := heap_new w o
structure St.num (s : St) : Prop where
 sl : 0 ≤ s.slot ∧ s.slot ≤ 1099511627776
 je : 0 ≤ s.just.e ∧ s.just.e ≤ 1099511627776
 fe : 0 ≤ s.fin.e ∧ s.fin.e ≤ 1099511627776
 nl : s.tree.nodes.length ≤ 1024
 nd : ∀ r, 0 ≤ (s.tree.nd r).slot ∧ (s.tree.nd r).slot ≤ 1099511627776
 vl : s.votes.length ≤ 4096
 ve : ∀ x ∈ s.votes, 0 ≤ x.epoch ∧ x.epoch ≤ 1099511627776
theorem roots_length (t : Tr) : t.roots.length = t.nodes.length := by simp [Tr.roots, sortI, keys]
theorem flat3 (t : Tr) : ∀ l : List Int, (l.flatMap (canonN t)).length = 3 * l.length
 | [] => rfl
 | x :: l => by simp only [List.flatMap_cons, List.length_append, flat3 t l, List.length_cons, canonN, List.length_nil]; omega
theorem flat4 : ∀ l : List En, (l.flatMap canonE).length = 4 * l.length
 | [] => rfl
 | x :: l => by simp only [List.flatMap_cons, List.length_append, flat4 l, List.length_cons, canonE, List.length_nil]; omega
theorem flatMap_take {α : Type} (f : α → List Int) (l : List α) (j : Nat) (h : j < l.length) : (l.take (j + 1)).flatMap f = (l.take j).flatMap f ++ f l[j] := by
 rw [List.take_succ_eq_append_getElem h, List.flatMap_append]; simp
theorem flag_bit (w : World) (b : Bool) : Calls Tryz.prog 43 #[.bool b] w fun e w' => e = .returned (.int .u64 (bitN b)) ∧ w = w' := flag_calls w b
theorem zEn (W : World) : (zeroValue 114).run Tryz.prog W = .ok (.agg (enC En.zero).toArray) W := by kernel_rfl
theorem iEn : (Tryz.prog.info? 114).map (·.size) = some 4 := by kernel_rfl
theorem flat_part (v : List En) (j : Nat) (h : j < v.length) : ((v.flatMap enC).drop (j * 4)).take 4 = enC v[j] := by
 apply List.ext_getElem?
 intro i
 by_cases hi : i < 4
 ·rw [List.getElem?_take_of_lt hi, List.getElem?_drop, flat_get v j i hi, List.getElem?_eq_getElem h]; rfl
 ·rw [List.getElem?_eq_none (by rw [List.length_take]; omega), List.getElem?_eq_none (by rw [enC_length]; omega)]
theorem Of_calls {w : World} {p : Places} {s : St} {k vk : Nat} {ch : Value} (h : StoreAt w p s k vk ch) (hs : s.num) (head : Int) :
    Calls Tryz.prog 15 #[.pointer (some ⟨p.sb, 0, none⟩), .int .u64 head] w (RetBytes (bes (canonL s head)) w) := by
 obtain ⟨sb, tb, nb, vb, lb, gb, bb⟩ := p
 have hq := h.blk
 unfold stC at hq
 simp only at hq
 obtain ⟨sl, je, fe, nl, nd, vl, ve⟩ := hs
 obtain ⟨B, HB, hB1, hB2⟩ := size_hid w
 have K : ∀ W, Below w.heap.size w W → (W.cell? ⟨sb, 0, none⟩ = some (.slice (some ⟨bb, 0, none⟩) s.c.bal.length k) ∧ W.cell? ⟨sb, 1, none⟩ = some (.int .i64 s.c.slots) ∧ W.cell? ⟨sb, 2, none⟩ = some (.int .i64 s.c.boost) ∧ W.cell? ⟨sb, 3, none⟩ = some (.pointer (some ⟨tb, 0, none⟩)) ∧ W.cell? ⟨sb, 4, none⟩ = some (.slice (some ⟨vb, 0, none⟩) s.votes.length vk) ∧ W.cell? ⟨sb, 5, none⟩ = some (.int .i64 s.slot) ∧ W.cell? ⟨sb, 6, none⟩ = some (.int .u64 s.boosted) ∧ W.cell? ⟨sb, 7, none⟩ = some (.int .i64 s.just.e) ∧ W.cell? ⟨sb, 8, none⟩ = some (.int .u64 s.just.r) ∧ W.cell? ⟨sb, 9, none⟩ = some (.int .i64 s.fin.e) ∧ W.cell? ⟨sb, 10, none⟩ = some (.int .u64 s.fin.r) ∧ W.cell? ⟨sb, 11, none⟩ = some (.map (some lb)) ∧ W.cell? ⟨sb, 12, none⟩ = some (.map (some gb)) ∧ W.cell? ⟨sb, 13, none⟩ = some (ch)) := fun W hW => cs14 (blk_below hq hW)
 have cL := fun (W : World) (hW : Below w.heap.size w W) => Len_calls (h.tree.below hW)
 have hD : Below w.heap.size w w.drew := (Below.refl _ _).drew
 have HR := fun (W : World) (hW : Below w.heap.size w W) => Roots_calls (h.tree.below hW) (by omega)
 have HG := fun (W : World) (hW : Below w.heap.size w W) (r : Int) => Get_calls (h.tree.below hW) r
 have HVt := Lib.hid h.votes
 have HND := Lib.hid nd
 have HVE := Lib.hid ve
 obtain ⟨L0, hL0⟩ : ∃ L0, L0 = canonH s head := ⟨_, rfl⟩
 have HL0 := Lib.hid hL0
 have h8 : L0.length = 8 := by rw [hL0]; rfl
 have y1 : IntKind.u64.wrap s.slot = s.slot := IntWalk.u64_in _ (by omega)
 have y2 : IntKind.u64.wrap s.just.e = s.just.e := IntWalk.u64_in _ (by omega)
 have y3 : IntKind.u64.wrap s.fin.e = s.fin.e := IntWalk.u64_in _ (by omega)
 have y4 : IntKind.u64.wrap (s.tree.nodes.length : Int) = s.tree.nodes.length := IntWalk.u64_in _ (by omega)
 clear hL0 h hq nd ve
 go_enter Tryz.func15, Tryz.ntmps15
 go_upto_region 1 with fail
 go_cut [5] (fun v w' => ∃ A c, v = .slice A (bes L0).length c ∧ Ints anyB .u8 w' A (bes L0) ∧ Below w.heap.size w w' ∧ Fits (bes L0).length c)
 case first =>
  go_region_held3 (fun w' => (w'.cell? ⟨sb, 0, none⟩ = some (.slice (some ⟨bb, 0, none⟩) s.c.bal.length k) ∧ w'.cell? ⟨sb, 1, none⟩ = some (.int .i64 s.c.slots) ∧ w'.cell? ⟨sb, 2, none⟩ = some (.int .i64 s.c.boost) ∧ w'.cell? ⟨sb, 3, none⟩ = some (.pointer (some ⟨tb, 0, none⟩)) ∧ w'.cell? ⟨sb, 4, none⟩ = some (.slice (some ⟨vb, 0, none⟩) s.votes.length vk) ∧ w'.cell? ⟨sb, 5, none⟩ = some (.int .i64 s.slot) ∧ w'.cell? ⟨sb, 6, none⟩ = some (.int .u64 s.boosted) ∧ w'.cell? ⟨sb, 7, none⟩ = some (.int .i64 s.just.e) ∧ w'.cell? ⟨sb, 8, none⟩ = some (.int .u64 s.just.r) ∧ w'.cell? ⟨sb, 9, none⟩ = some (.int .i64 s.fin.e) ∧ w'.cell? ⟨sb, 10, none⟩ = some (.int .u64 s.fin.r) ∧ w'.cell? ⟨sb, 11, none⟩ = some (.map (some lb)) ∧ w'.cell? ⟨sb, 12, none⟩ = some (.map (some gb)) ∧ w'.cell? ⟨sb, 13, none⟩ = some (ch)))
   (first | (with_reducible exact K _ hD) | (with_reducible exact K _ (by assumption)) | exact K _ (below_alloc (Below.refl _ _) _).drew)
   (first
     | (go_at_call 21; refine (cL _ hD).mono ?_; rintro e w2 ⟨rfl, rfl⟩)
     | (go_at_call 40; refine (Put_ret _ none 0 0 [] (some ⟨w.heap.size, 0, none⟩) 8 8 L0 Lie.nil (by rw [HL0.out]; exact ints_blk (canonH s head) (heap_newD _ _)) rfl h8 (by rw [h8]; decide)).mono ?_; rintro e w3 ⟨A, c, rfl, hI, hb', hF⟩; have hb : Below w.heap.size w w3 := below_then (below_alloc (Below.refl _ _) _).drew (by simp) hb'))
  go_wp2
  go_meet
  case rel => exact ⟨A, c, rfl, hI, hb, hF⟩
 case rest =>
  obtain ⟨A0, c0, rfl, hI0, hb0, hF0⟩ := hcut
  obtain ⟨W1, rfl⟩ : ∃ W1 : World, W1 = wc := ⟨_, rfl⟩
  obtain ⟨_, _, _, x3, _⟩ := K _ hb0
  go_wp2_with (go_at_call 41; refine (HR _ hb0).mono ?_; rintro e W2 ⟨AR, cR, rfl, hIR, hbR⟩)
  have hb2 : Below w.heap.size w W2 := hb0.trans (hbR.mono hb0.size)
  have HI0 := Lib.hid (hI0.below hbR)
  have HIR := Lib.hid hIR
  have HB2 := Lib.hid hb2
  have HF0 := Lib.hid hF0
  have hRl : s.tree.roots.length ≤ 1024 := by rw [roots_length]; exact nl
  obtain ⟨R, hR⟩ : ∃ R, R = s.tree.roots := ⟨_, rfl⟩
  rw [← hR] at hRl HIR ⊢
  have HRe := Lib.hid hR
  clear hR x3 hI0 hIR hbR hb0 cL HR hD hF0
  go_loopw [5, 60] (fun o i wr => ∃ (j : Nat) (A : Option Addr) (c : Nat), j ≤ R.length ∧ i = .int .i64 j ∧ o = .slice A (bes (L0 ++ (R.take j).flatMap (canonN s.tree))).length c ∧ Hid (Ints anyB .u8 wr A (bes (L0 ++ (R.take j).flatMap (canonN s.tree)))) ∧ Hid (Below W2.heap.size W2 wr) ∧ Hid (Fits (bes (L0 ++ (R.take j).flatMap (canonN s.tree))).length c)) (fun _ i _ => R.length - (intOf i).toNat)
  case atStart => exact ⟨0, A0, c0, Nat.zero_le _, rfl, by simp, by show Ints _ _ _ _ _; simpa using HI0.out, Below.refl _ _, by show Fits _ _; simpa using HF0.out⟩
  case round =>
   obtain ⟨j, A, c, hj, rfl, rfl, HI, HW, HF⟩ := hrel
   have hbr : Below w.heap.size w wr := HB2.out.trans (HW.out.mono HB2.out.size)
   have hXl : (bes (L0 ++ (R.take j).flatMap (canonN s.tree))).length ≤ 25000 := by
    rw [bes_length, List.length_append, flat3, h8, List.length_take]; omega
   by_cases hlt : j < R.length
   ·obtain ⟨b, o, rfl, _, hc⟩ := (HIR.out.below HW.out).get hlt
    have HT : Hid (bes (L0 ++ (R.take (j + 1)).flatMap (canonN s.tree)) = bes (L0 ++ (R.take j).flatMap (canonN s.tree)) ++ bes (canonN s.tree (R.getD j 0))) := by
     show _ = _
     rw [flatMap_take _ _ _ hlt, ← List.append_assoc, bes_append, List.getD_eq_getElem?_getD, List.getElem?_eq_getElem hlt]; rfl
    generalize bes (L0 ++ (R.take j).flatMap (canonN s.tree)) = X at HI HT hXl HF ⊢
    generalize R.getD j 0 = r at hc HT
    obtain ⟨_, _, _, x3, _⟩ := K _ hbr
    have y5 : IntKind.u64.wrap (s.tree.nd r).slot = (s.tree.nd r).slot := IntWalk.u64_in _ (by have := HND.out r; omega)
    have tok : True := trivial
    go_wp2_with (first
     | (go_at_call 42; refine (HG _ hbr r).mono ?_; rintro e w3 ⟨rfl, hb3⟩)
     | (go_at_call 40; refine (Put_ret _ A X.length c X (some ⟨w3.heap.size, 0, none⟩) 3 3 (canonN s.tree r) ((HI.out.below hb3).below (below_alloc (Below.refl _ _) _)) (ints_blk (canonN s.tree r) (heap_new _ _)) rfl rfl (by simp [canonN]; omega)).mono ?_; rintro e w4 ⟨A', c', rfl, hI', hb4, hF'⟩; have HF' := Lib.hid hF'; clear hF'))
    go_roundw
    case rel =>
     refine ⟨j + 1, A', c', by omega, by go_num, by rw [HT.out, List.length_append], ?_, ?_, ?_⟩
     ·show Ints _ _ _ _ _
      rw [HT.out]; exact hI'
     rotate_left
     ·show Fits _ _
      rw [HT.out]; exact HF'.out
     ·show Below _ _ _
      exact HW.out.trans ((hb3.trans ((below_then (below_alloc (Below.refl _ _) _) (by simp) hb4).mono hb3.size)).mono HW.out.size)
    case measure => simp [intOf]; omega
   ·obtain rfl : j = R.length := by omega
    rw [List.take_length] at HI hXl HF ⊢
    have HB3 := Lib.hid hbr
    obtain ⟨L1, hL1⟩ : ∃ L1, L1 = (L0 ++ R.flatMap (canonN s.tree)) ++ [(s.votes.length : Int)] := ⟨_, rfl⟩
    have HL1 : Hid (bes L1 = bes (L0 ++ R.flatMap (canonN s.tree)) ++ bes [(s.votes.length : Int)]) := by show _ = _; rw [hL1, bes_append]
    have HLe := Lib.hid hL1
    have h8l : L1.length = 8 + 3 * R.length + 1 := by rw [hL1]; simp only [List.length_append, flat3, List.length_cons, List.length_nil, h8]
    generalize bes (L0 ++ R.flatMap (canonN s.tree)) = X at HI HL1 hXl HF ⊢
    obtain ⟨_, _, _, _, x4, _⟩ := K _ hbr
    have y6 : IntKind.u64.wrap (s.votes.length : Int) = s.votes.length := IntWalk.u64_in _ (by omega)
    clear hL1
    go_wp2_with (first
     | (go_at_call 40; refine (Put_ret _ A X.length c X (some ⟨wr.heap.size, 0, none⟩) 1 1 [(s.votes.length : Int)] (HI.out.below (below_alloc (Below.refl _ _) _)) (ints_blk [(s.votes.length : Int)] (heap_new _ _)) rfl rfl (by simp; omega)).mono ?_; rintro e W4 ⟨A5, c5, rfl, hI5, hb5', hF5⟩; have hb5 : Below wr.heap.size wr W4 := below_then (below_alloc (Below.refl _ _) _) (by simp) hb5'; obtain ⟨_, _, _, _, x5, _⟩ := K _ (HB3.out.trans (hb5.mono HB3.out.size))))
    have HB4 := Lib.hid (HB3.out.trans (hb5.mono HB3.out.size))
    have HI5 : Hid (Ints anyB .u8 W4 A5 (bes L1)) := by
     show Ints _ _ _ _ _
     rw [HL1.out]; exact hI5
    have HF5 : Hid (Fits (bes L1).length c5) := by
     show Fits _ _
     rw [HL1.out]; exact hF5
    have HVw := Lib.hid (HVt.out.below HB4.out)
    clear hbr hb5 hb5' hI5 hF5 HF x4 x5 HB3 HI HB2 HIR HI0
    go_loopw [5, 97] (fun o i wr => ∃ (j : Nat) (A : Option Addr) (c : Nat), j ≤ s.votes.length ∧ i = .int .i64 j ∧ o = .slice A (bes (L1 ++ (s.votes.take j).flatMap canonE)).length c ∧ Hid (Ints anyB .u8 wr A (bes (L1 ++ (s.votes.take j).flatMap canonE))) ∧ Hid (Below W4.heap.size W4 wr) ∧ Hid (Fits (bes (L1 ++ (s.votes.take j).flatMap canonE)).length c)) (fun _ i _ => s.votes.length - (intOf i).toNat)
    case atStart => exact ⟨0, A5, c5, Nat.zero_le _, rfl, by rw [List.take_zero, List.flatMap_nil, List.append_nil, HL1.out, List.length_append], by show Ints _ _ _ _ _; simpa using HI5.out, Below.refl _ _, by show Fits _ _; simpa using HF5.out⟩
    case round =>
     clear HW hlt hj
     obtain ⟨j, A, c, hj, rfl, rfl, HI, HW, HF⟩ := hrel
     have hYl : (bes (L1 ++ (s.votes.take j).flatMap canonE)).length ≤ 200000 := by
      rw [bes_length, List.length_append, flat4, h8l, List.length_take]; omega
     by_cases hlt : j < s.votes.length
     ·have hV : wr.heap[vb]? = some (.cells (s.votes.flatMap enC).toArray 114 (0, 0)) := HVw.out.below HW.out
      have HT : Hid (bes (L1 ++ (s.votes.take (j + 1)).flatMap canonE) = bes (L1 ++ (s.votes.take j).flatMap canonE) ++ bes (canonE s.votes[j])) := by
       show _ = _
       rw [flatMap_take _ _ _ hlt, ← List.append_assoc, bes_append]
      have hpart := flat_part s.votes j hlt
      have hxe := HVE.out _ (List.getElem_mem hlt)
      generalize bes (L1 ++ (s.votes.take j).flatMap canonE) = Y at HI HT hYl HF ⊢
      generalize s.votes[j] = x at HT hpart hxe
      have y7 : IntKind.u64.wrap x.epoch = x.epoch := IntWalk.u64_in _ (by omega)
      have hal := heap_new wr (.cells #[.bool x.has, .int .i64 x.epoch, .int .u64 x.root, .bool x.banned] 114)
      have hba : Below wr.heap.size wr (wr.alloc (.cells #[.bool x.has, .int .i64 x.epoch, .int .u64 x.root, .bool x.banned] 114)) := below_alloc (Below.refl _ _) _
      go_upto_region 12 with (first
       | (refine wpList_loadP rfl 114 (.tmp 99) rfl vb (j * 4) [.bool x.has, .int .i64 x.epoch, .int .u64 x.root, .bool x.banned] (s.votes.flatMap enC) hV hpart rfl _ Tryz.underlying114 rfl iEn ?_)
       | (refine wpList_box 114 13 _ (.tmp 100) [.bool x.has, .int .i64 x.epoch, .int .u64 x.root, .bool x.banned] rfl rfl rfl zEn rfl rfl iEn rfl ?_))
      have hbw : Below wr.heap.size wr (wr.alloc (.cells #[.bool x.has, .int .i64 x.epoch, .int .u64 x.root, .bool x.banned] 114)).drew := hba.drew
      have HI2 := Lib.hid (HI.out.below hbw)
      have hal2 : (wr.alloc (.cells #[.bool x.has, .int .i64 x.epoch, .int .u64 x.root, .bool x.banned] 114)).drew.heap[wr.heap.size]? = some (.cells #[.bool x.has, .int .i64 x.epoch, .int .u64 x.root, .bool x.banned] 114 (0, 0)) := hal
      generalize hVB : wr.heap.size = VB at hal2 hal hba hbw
      have HVB := Lib.hid hVB
      clear hVB
      obtain ⟨W5, hW5⟩ : ∃ W5, W5 = wr.alloc (.cells #[.bool x.has, .int .i64 x.epoch, .int .u64 x.root, .bool x.banned] 114) := ⟨_, rfl⟩
      rw [← hW5] at hal2 hal hba hbw HI2 ⊢
      clear hW5
      have K2 : ∀ W, Below W5.drew.heap.size W5.drew W → (W.cell? ⟨VB, 0, none⟩ = some (.bool x.has) ∧ W.cell? ⟨VB, 1, none⟩ = some (.int .i64 x.epoch) ∧ W.cell? ⟨VB, 2, none⟩ = some (.int .u64 x.root) ∧ W.cell? ⟨VB, 3, none⟩ = some (.bool x.banned)) := fun W hW => cs4 (blk_below hal2 hW)
      have hD5 : Below W5.drew.heap.size W5.drew W5.drew := Below.refl _ _
      go_region_held3 (fun w' => (w'.cell? ⟨VB, 0, none⟩ = some (.bool x.has) ∧ w'.cell? ⟨VB, 1, none⟩ = some (.int .i64 x.epoch) ∧ w'.cell? ⟨VB, 2, none⟩ = some (.int .u64 x.root) ∧ w'.cell? ⟨VB, 3, none⟩ = some (.bool x.banned)))
       (first | (with_reducible exact K2 _ hD5) | (with_reducible exact K2 _ (by assumption)) | exact K2 _ (below_alloc (Below.refl _ _) _))
       (first
         | (go_at_call 43; refine (flag_bit _ _).mono ?_; rintro e w2 ⟨rfl, rfl⟩)
         | (go_at_call 40; refine (Put_ret _ A Y.length c Y (some ⟨W5.heap.size, 0, none⟩) 4 4 (canonE x) (HI2.out.below (below_alloc (Below.refl _ _) _)) (by exact ints_blk (canonE x) (heap_newD _ _)) rfl rfl (by simp [canonE]; omega)).mono ?_; rintro e w3 ⟨A', c', rfl, hI', hb', hF'⟩; have HF' := Lib.hid hF'; clear hF'; have hb : Below W5.drew.heap.size W5.drew w3 := below_then (below_alloc (Below.refl _ _) _) (by simp) hb'))
      go_wp2
      go_roundw
      case rel =>
       refine ⟨j + 1, A', c', by omega, by go_num, by rw [HT.out, List.length_append], ?_, ?_, ?_⟩
       ·show Ints _ _ _ _ _
        rw [HT.out]; exact hI'
       rotate_left
       ·show Fits _ _
        rw [HT.out]; exact HF'.out
       ·show Below _ _ _
        exact HW.out.trans ((hbw.trans (hb.mono (by rw [← HVB.out]; exact hbw.size))).mono (by rw [← HVB.out]; exact HW.out.size))
      case measure => simp [intOf]; omega
     ·obtain rfl : j = s.votes.length := by omega
      rw [List.take_length] at HI hYl HF ⊢
      go_wp2
      go_ret
      have he : L1 ++ s.votes.flatMap canonE = canonL s head := by
       rw [HLe.out, HL0.out, HRe.out]; rfl
      rw [he] at HI HF ⊢
      exact ⟨A, c, rfl, HI.out, HB4.out.trans (HW.out.mono HB4.out.size), HF.out⟩
end Go.Proofs.YtnppimhlfcjghaaGreat
