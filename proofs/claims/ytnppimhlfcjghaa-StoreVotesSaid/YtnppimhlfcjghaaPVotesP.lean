import Derived.Test.YtnppimhlfcjghaaPLaw
set_option linter.all false
set_option linter.unusedVariables false
set_option linter.unusedSimpArgs false
namespace Go.Proofs.Ytnppimhlfcjghaa
open Go.RowKit
set_option maxRecDepth 100000
theorem applyS_c (s : St) (e : Ev) : (applyS s e).1.1.c = s.c := by
 unfold applyS
 split
 ·split
  ·rfl
  ·split <;> rfl
 ·split
  ·split
   ·rw [proposeS_eq]
    split
    ·rw [raiseS_c]; exact prop4_c s e.block
    ·exact prop4_c s e.block
   ·rfl
  ·split
   ·exact attestS_c (s, []) e.vote false
   ·split
    ·exact slashS_c (s, []) e.proof
    ·rfl
def cnt (P : Int → Bool) (W : List Int) (i : Nat) : Nat := ((W.take i).filter P).length
theorem cnt_zero (P : Int → Bool) (W : List Int) : cnt P W 0 = 0 := by simp [cnt]
theorem cnt_yes {P : Int → Bool} {W : List Int} {i : Nat} {k : Int} (h : W[i]? = some k) (hp : P k = true) : cnt P W (i + 1) = cnt P W i + 1 := by
 unfold cnt
 rw [List.take_add_one, h]
 simp [List.filter_append, hp]
theorem cnt_no {P : Int → Bool} {W : List Int} {i : Nat} {k : Int} (h : W[i]? = some k) (hp : P k = false) : cnt P W (i + 1) = cnt P W i := by
 unfold cnt
 rw [List.take_add_one, h]
 simp [List.filter_append, hp]
theorem cnt_all (P : Int → Bool) (W : List Int) : cnt P W W.length = (W.filter P).length := by simp [cnt]
theorem cnt_get {P : Int → Bool} {W : List Int} {i : Nat} {k : Int} (f : Int → Chg) (h : W[i]? = some k) (hp : P k = true) : ((W.filter P).map f)[cnt P W i]? = some (f k) := by
 obtain ⟨hi, he⟩ := List.getElem?_eq_some_iff.1 h
 have h1 : W.filter P = (W.take i).filter P ++ k :: (W.drop (i + 1)).filter P := by
  conv => lhs; rw [← List.take_append_drop i W, List.drop_eq_getElem_cons hi, he]
  rw [List.filter_append, List.filter_cons, if_pos hp]
 rw [h1, List.map_append, List.getElem?_append_right (by simp [cnt])]
 simp [cnt]
theorem whoOk_in {n : Int} {W : List Int} (h : whoOk n W = true) {i : Nat} {k : Int} (hk : W[i]? = some k) : 0 ≤ k ∧ k < n := by
 unfold whoOk at h
 rw [List.all_eq_true] at h
 have hi := (List.getElem?_eq_some_iff.1 hk).1
 have := h i (List.mem_range.2 hi)
 have hg : W.getD i 0 = k := by rw [List.getD_eq_getElem?_getD, hk]; rfl
 unfold whoBad at this
 rw [hg] at this
 simp at this
 omega
theorem slashWho_at {c : Cf} {p : Pf} {i : Nat} {k : Int} (hk : (slashWho c p)[i]? = some k) : 0 ≤ k ∧ k < c.bal.length := by
 unfold slashWho at hk
 split at hk
 ·rename_i h
  simp only [Bool.and_eq_true] at h
  have hm := List.mem_of_getElem? hk
  unfold bothL at hm
  have hm2 := (List.mem_filter.1 hm).1
  obtain ⟨j, hj⟩ := List.getElem?_of_mem hm2
  exact whoOk_in (rightB_epoch h.1.1).2.2.2.2.2 hj
 ·simp at hk
theorem takes_in {v : List En} {k : Nat} {x : En} (h : v[k]? = some x) (e : Int) : takes v k e = !(x.banned || (x.has && decide (e ≤ x.epoch))) := by
 unfold takes entry
 rw [if_pos (by omega), Int.toNat_natCast, h]
theorem bans_in {v : List En} {k : Nat} {x : En} (h : v[k]? = some x) : bans v k = !x.banned := by
 unfold bans entry
 rw [if_pos (by omega), Int.toNat_natCast, h]
def VotesR (w : World) (vb : Nat) (v : List En) : Prop := ∀ (j : Nat) (x : En), v[j]? = some x → w.cell? ⟨vb, j * 4, none⟩ = some (.bool x.has) ∧ w.cell? ⟨vb, j * 4 + 1, none⟩ = some (.int .i64 x.epoch) ∧ w.cell? ⟨vb, j * 4 + 2, none⟩ = some (.int .u64 x.root) ∧ w.cell? ⟨vb, j * 4 + 3, none⟩ = some (.bool x.banned)
theorem VotesR.below {w w' : World} {vb : Nat} {v : List En} (h : VotesR w vb v) (hb : Below w.heap.size w w') : VotesR w' vb v := fun j x hx => by
 obtain ⟨a, b, c, d⟩ := h j x hx
 exact ⟨cell_below a hb, cell_below b hb, cell_below c hb, cell_below d hb⟩
theorem VotesR.ext {w w' : World} {F : Nat → Prop} {vb : Nat} {v : List En} (h : VotesR w vb v) (hb : Ext F w w') (hF : ¬ F vb) : VotesR w' vb v := fun j x hx => by
 obtain ⟨a, b, c, d⟩ := h j x hx
 exact ⟨cell_ext a hb hF, cell_ext b hb hF, cell_ext c hb hF, cell_ext d hb hF⟩
theorem VotesR.of_own {w : World} {base g c : Nat} {v : List En} (h : w.ownsRow base 77 4 (.slice (some ⟨g, 0, none⟩) v.length c) v.length (v.flatMap enC)) : VotesR w g v := fun j x hx => by
 have key : ∀ i u, i < 4 → (enC x)[i]? = some u → w.cell? ⟨g, j * 4 + i, none⟩ = some u := fun i u hi hu => by
  have := h.cells (g := g) rfl (j * 4 + i) u (by rw [flat_get v j i hi, hx]; exact hu)
  have ha : (⟨g, 0, none⟩ : Addr).add (j * 4 + i) = ⟨g, 0 + (j * 4 + i), none⟩ := by unfold Addr.add; split <;> simp_all
  rwa [ha, Nat.zero_add] at this
 exact ⟨key 0 _ (by omega) rfl, key 1 _ (by omega) rfl, key 2 _ (by omega) rfl, key 3 _ (by omega) rfl⟩
theorem VGetR_calls {w : World} {vb : Nat} {v : List En} (h : VotesR w vb v) (c : Nat) (j : Nat) (hj : j < v.length) (hl : v.length ≤ 4096) : Calls Try.prog 20 #[.slice (some ⟨vb, 0, none⟩) v.length c, .int .i64 j] w fun e w' => e = .returned (.tuple #[.int .u64 (getV v j).1, .bool (getV v j).2]) ∧ w = w' := by
 obtain ⟨c0, c1, c2, c3⟩ := h j _ (List.getElem?_eq_getElem hj)
 have hE := entry_in hj
 generalize v[j] = x at c0 c1 c2 c3 hE
 have hG : getV v (j : Int) = if !x.has || x.banned then (0, false) else (x.root, true) := by rw [getV, hE]
 have HG := Lib.hid hG
 clear hG hE h
 cases hh : x.has <;> cases hb : x.banned <;> rw [hh] at c0 <;> rw [hb] at c3 <;> (have HX := Lib.hid hh; have HY := Lib.hid hb; clear hh hb) <;>
 (go_enter Try.func20, Try.ntmps20; go_wp2; go_ret2; exact ⟨by rw [HG.out, HX.out, HY.out]; rfl, rfl⟩)
theorem run_app0 {P : Program} (w : World) (base : Nat) (t ty e : TypeId) (i : TypeInfo) (z : Value) (size bytes : Nat) (ht : P.underlying t = some (.slice e)) (hi : P.info? e = some i) (hz : i.zero = some z) (hsize : i.size = size) (hby : i.bytes = bytes) (hzs : z.cells.size = size) (hsz : 0 < size)
    (b a : Addr) (m c : Nat) (news : List Value) (hl : news.length = m * size) (hnews : ∀ j u, news[j]? = some u → w.cell? (a.add j) = some u) (hm0 : 0 < m) (hm : m ≤ 140737488355328) (hb : m * bytes ≤ 140737488355328) (hbase : base ≤ w.heap.size) :
    ∃ c' w', (Builtin.append_ #[t, t] ty #[.slice (some b) 0 0, .slice (some a) m c]).run P w = .ok (.slice (some ⟨w.heap.size, 0, none⟩) m c') w' ∧ w'.ownsRow base e size (.slice (some ⟨w.heap.size, 0, none⟩) m c') m news ∧ w.grownBy w' none := by
 subst hsize
 subst hby
 have h63 : 0 + m ≤ maxLen := by simp only [maxLen]; omega
 have hr := run_append_grow (P := P) w t ty e i z ht hi hz b 0 0 [] (by simp) (by simp) a m c news hl hnews (by omega) (by omega) (growslice_fits (by omega) (by rw [Nat.zero_add]; exact hb))
 have hge := grownCap_ge w (0 + m) 0 e
 have hcm : grownCap w (0 + m) 0 e ≤ maxLen := grownCap_le_maxLen w (0 + m) 0 e h63
 rw [Nat.zero_add] at hr hge hcm
 refine ⟨_, _, hr, ⟨hl, .inr ⟨w.heap.size, _, _, rfl, hbase, heap_alloc_new w.drew _, hge, hcm, ?_, ?_⟩⟩, ⟨rfl, rfl, rfl, by simp, fun k hk _ => heap_alloc_old w.drew _ hk⟩⟩
 ·simp only [Array.size_append, List.size_toArray, size_zeroCells, hzs, hl, List.length_nil, Nat.zero_add, ← Nat.add_mul]
  congr 1
  omega
 ·simp only [Array.toList_append, List.nil_append, ← hl]
  exact List.take_left
theorem step_app0 {P : Program} {ops : Array Oper} {o : Oper} {a : Act} {Q : Exit → Act → World → Prop} {w : World} {K : Act → World → Prop} {E : Prop} (base : Nat) (hgd : o.guard = none) (s x : Operand) (t e : TypeId) (z : Value) (size bytes : Nat)
    (ho : o.op = .call { callee := .builtin .append, args := #[s, x], argTypes := #[t, t] })
    (ht : P.underlying t = some (.slice e)) (hinfo : (P.info? e).map (fun i => (i.zero, i.size, i.bytes)) = some (some z, size, bytes)) (hzs : z.cells.size = size) (hsz : 0 < size)
    (b ad : Addr) (hs : a.eval s = .slice (some b) 0 0) (m c : Nat) (news : List Value) (hx : a.eval x = .slice (some ad) m c) (hl : news.length = m * size) (hn : ∀ j u, news[j]? = some u → w.cell? (ad.add j) = some u) (hm0 : 0 < m) (hb : m * bytes ≤ 140737488355328) (hm : m ≤ 140737488355328) (hbase : base ≤ w.heap.size)
    (h : ∀ c' w', w'.ownsRow base e size (.slice (some ⟨w.heap.size, 0, none⟩) m c') m news → w.grownBy w' none → K (a.put o.dst (.slice (some ⟨w.heap.size, 0, none⟩) m c')) w') :
    if Region.wanted o (yielded ops a.tmps) = true then Oper.wp P o a w K Q else E := by
 have hw : Region.wanted o (yielded ops a.tmps) = true := by simp [Region.wanted, hgd]
 rw [if_pos hw]
 obtain ⟨i, hi, hi2⟩ := Option.map_eq_some_iff.1 hinfo
 simp only [Prod.mk.injEq] at hi2
 obtain ⟨c', w', hr, h2, h3⟩ := run_app0 (P := P) w base t o.type e i z size bytes ht hi hi2.1 hi2.2.1 hi2.2.2 hzs hsz b ad m c news hl hn hm0 hm hb hbase
 unfold Oper.wp execOp
 simp only [ho, resolve, invoke, builtin, Sem.run_bind, Sem.run_pure, Result.andThen_ok, List.map_toArray, List.map_cons, List.map_nil, hs, hx, hr]
 exact h c' w' h2 h3
theorem VotesAt.news {w : World} {vb : Nat} {v : List En} (h : VotesAt w vb v) : ∀ j u, (v.flatMap enC)[j]? = some u → w.cell? ((⟨vb, 0, none⟩ : Addr).add j) = some u := fun j u hu => by
 have ha : (⟨vb, 0, none⟩ : Addr).add j = ⟨vb, 0 + j, none⟩ := by unfold Addr.add; split <;> simp_all
 rw [ha, Nat.zero_add, blk_cell h, enCells]
 simpa using hu
theorem chg_takeV : ∀ (xs : List Chg) (j : Nat) (x : Chg), xs[j]? = some x → ((xs.flatMap chgC).drop (j * 6)).take 6 = chgC x
 | [], j, x, h => by simp at h
 | a :: l, 0, x, h => by
   obtain rfl : a = x := by simpa using h
   simp [chgC]
 | a :: l, j + 1, x, h => by
   have ih := chg_takeV l j x (by simpa using h)
   rw [List.flatMap_cons, show (j + 1) * 6 = 6 + j * 6 from by omega, ← List.drop_drop, List.drop_left' (show (chgC a).length = 6 from rfl)]
   exact ih
theorem chg_cellsV {w : World} {base : Nat} {A : Option Addr} {c : Nat} {xs : List Chg} (h : w.ownsRow base 75 6 (.slice A xs.length c) xs.length (xs.flatMap chgC)) {j : Nat} {x : Chg} (hx : xs[j]? = some x) : ∃ g, A = some ⟨g, 0, none⟩ ∧ ∀ i u, (chgC x)[i]? = some u → w.cell? ⟨g, j * 6 + i, none⟩ = some u := by
 have hK : Lie (fun _ => True) (fun (x : Chg) cs => cs = chgC x) 6 w A xs := Lie.of_own h (by decide) rfl (fun j x hx => chg_takeV xs j x hx) (fun _ _ _ => trivial)
 obtain ⟨b, o, cs, e, _, rfl, _, hu⟩ := Lie.get hK hx
 obtain ⟨g, cap, he, _, _⟩ := h.form (by have := (List.getElem?_eq_some_iff.1 hx).1; omega)
 injection he with e1 _ _
 rw [e1] at e
 injection e with e
 injection e with e2 e3 _
 subst e2 e3
 exact ⟨g, e1, fun i u hi => by have := hu i u hi; rwa [Nat.zero_add] at this⟩
theorem cs6 {w : World} {b : Nat} {T : TypeId} {f : Nat × Nat} {a0 a1 a2 a3 a4 a5 : Value} (h : w.heap[b]? = some (.cells #[a0, a1, a2, a3, a4, a5] T f)) : w.cell? ⟨b, 0, none⟩ = some a0 ∧ w.cell? ⟨b, 1, none⟩ = some a1 ∧ w.cell? ⟨b, 2, none⟩ = some a2 ∧ w.cell? ⟨b, 3, none⟩ = some a3 ∧ w.cell? ⟨b, 4, none⟩ = some a4 ∧ w.cell? ⟨b, 5, none⟩ = some a5 :=
 ⟨blk_cell h 0, blk_cell h 1, blk_cell h 2, blk_cell h 3, blk_cell h 4, blk_cell h 5⟩
theorem RunAt.applyF {B S1 S2 : Nat} {p : Places} {k vk : Nat} {A : Option Addr} {es : List Ev} {s : St} {ch : Value} {w : World} (h : RunAt B S1 S2 p.sb A es s ch w) (hS : StoreAt w p s k vk ch) (hp : ∀ i ∈ p.all, B ≤ i ∧ (i < S1 ∨ S2 ≤ i)) {e : Ev} (hwf : e.wf) {A1 : Option Addr} {c1 : Nat} {A2 : Option Addr} {c2 : Nat} {A3 : Option Addr} {c3 : Nat} {A4 : Option Addr} {c4 : Nat} {A5 : Option Addr} {c5 : Nat} (hR : EvR (fun b => S1 ≤ b ∧ b < S2) w e A1 c1 A2 c2 A3 c3 A4 c4 A5 c5) :
    Calls Try.prog 18 #[.pointer (some ⟨p.sb, 0, none⟩), .agg #[.int .i64 e.kind, .int .i64 e.slot, .int .u64 e.block.root, .int .u64 e.block.parent, .int .i64 e.block.slot, .slice A1 e.block.votes.length c1, .slice A2 e.block.proofs.length c2, .int .i64 e.vote.slot, .int .u64 e.vote.head, .int .i64 e.vote.src.e, .int .u64 e.vote.src.r, .int .i64 e.vote.tgt.e, .int .u64 e.vote.tgt.r, .slice A3 e.vote.who.length c3, .int .i64 e.proof.a.slot, .int .u64 e.proof.a.head, .int .i64 e.proof.a.src.e, .int .u64 e.proof.a.src.r, .int .i64 e.proof.a.tgt.e, .int .u64 e.proof.a.tgt.r, .slice A4 e.proof.a.who.length c4, .int .i64 e.proof.b.slot, .int .u64 e.proof.b.head, .int .i64 e.proof.b.src.e, .int .u64 e.proof.b.src.r, .int .i64 e.proof.b.tgt.e, .int .u64 e.proof.b.tgt.r, .slice A5 e.proof.b.who.length c5]] w (fun en w' => RetRun B S1 S2 p.sb A es s e w en w' ∧ Ext (p.foot w.heap.size) w w') := by
 obtain ⟨_, ok, row, wf, b⟩ := h
 have hb := b
 refine (Apply_calls hS ok e A1 c1 A2 c2 A3 c3 A4 c4 A5 c5 hwf (hR.mono (fun i hi => ⟨fun hh => by have := hp i (p.mem hh); omega, by omega⟩) (fun _ _ _ => rfl))).mono ?_
 rintro en w' ⟨nb', ch', rfl, hnb, hA, hx⟩
 have hx' : Ext (fun i => B ≤ i ∧ (i < S1 ∨ S2 ≤ i)) w w' := hx.mono (fun i hi hF => by
  rcases hF with hF | hF
  ·exact hp i (p.mem hF)
  ·omega)
 refine ⟨⟨ch', rfl, ⟨⟨{ p with nb := nb', w0 := w }, k, vk, rfl, hA.st, fun i hi => ?_⟩, ok_apply ok hwf, row.mono (fun _ x => x) (fun b hb hlt => hx'.block b hlt (fun hF => by omega)), wf, ⟨b.1, b.2.1, by have := hx'.size; omega⟩⟩, hA.chs, hA.kb, hx'⟩, hx⟩
 simp only [Places.all, List.mem_cons, List.not_mem_nil, or_false] at hi hp
 rcases hi with e | e | e | e | e | e | e
 ·exact hp i (by simp [e])
 ·exact hp i (by simp [e])
 ·rcases hnb with h | h
  ·exact hp i (by simp [e, h])
  ·omega
 ·exact hp i (by simp [e])
 ·exact hp i (by simp [e])
 ·exact hp i (by simp [e])
 ·exact hp i (by simp [e])
end Go.Proofs.Ytnppimhlfcjghaa
