import Derived.Test.YtnppimhlfcjghaaGreatPRange
import Derived.Test.YtnppimhlfcjghaaGreatPBase
import Derived.Test.YtnppimhlfcjghaaGreatPMakeV
set_option linter.all false
set_option linter.unusedVariables false
set_option linter.unusedSimpArgs false
namespace Go.Proofs.YtnppimhlfcjghaaGreat
open Go.RowKit
theorem own_fits2 {w : World} {base k size : Nat} {e : TypeId} {A : Option Addr} {n c : Nat} {xs : List Value} (h : w.ownsRow base e size (.slice A n c) k xs) : n = k ∧ Fits n c := by
 rcases h.2 with ⟨h1, h2⟩ | ⟨g, cap, cur, h1, _, _, h3, h4, _⟩
 ·cases h1; exact ⟨h2.symm, Nat.le_refl _, Nat.zero_le _⟩
 ·cases h1; exact ⟨rfl, h3, Nat.le_trans h3 h4⟩
def Keep (T : TypeId) (w w' : World) : Prop := ∀ (g : Nat) (cs : Array Value), w.heap[g]? = some (Obj.cells cs T (0, 0)) → w'.heap[g]? = some (Obj.cells cs T (0, 0))
section
variable {T : TypeId} {w w' w2 : World}
theorem Keep.refl (T : TypeId) (w : World) : Keep T w w := fun _ _ h => h
theorem Keep.trans (h : Keep T w w') (k : Keep T w' w2) : Keep T w w2 := fun g cs hg => k g cs (h g cs hg)
theorem Keep.own {base size n : Nat} {v : Value} {xs : List Value} (h : Keep T w w') (ho : w.ownsRow base T size v n xs) : w'.ownsRow base T size v n xs := by
 rcases ho with ⟨hl, h1 | ⟨g, cap, cur, rfl, hbg, hh, r⟩⟩
 ·exact ⟨hl, .inl h1⟩
 ·exact ⟨hl, .inr ⟨g, cap, cur, rfl, hbg, h _ _ hh, r⟩⟩
theorem Keep.of_below (h : Below w.heap.size w w') : Keep T w w' := fun _ _ hg => blk_below hg h
theorem Keep.of_ext {R : Nat} {TR : TypeId} {cs : Array Value} {f : Nat × Nat} (h : Ext (· = R) w w') (hR : w.heap[R]? = some (.cells cs TR f)) (hne : T ≠ TR) : Keep T w w' := fun g cs' hg =>
 blk_ext hg h (fun e => by subst e; rw [hR] at hg; cases hg; exact hne rfl)
theorem Keep.grown {base size n : Nat} {e : TypeId} {v : Value} {xs : List Value} (ho : w.ownsRow base e size v n xs) (hne : e ≠ T) (hg : w.grownBy w' v.ownBlock) : Keep T w w' := fun _ _ h => blk_app h ho hne hg
theorem Keep.set {V : Nat} {TV : TypeId} {cs : Array Value} {f : Nat × Nat} (hV : w.heap[V]? = some (.cells cs TV f)) (hne : T ≠ TV) (i : Nat) (u : Value) : Keep T w (w.setCell ⟨V, i, none⟩ u) :=
 Keep.of_ext ((Ext.refl (· = V) w).setCell (.inl rfl) u) hV hne
end
structure Keeps (w w' : World) : Prop where
 i : Keep 3 w w'
 v : Keep 53 w w'
 p : Keep 55 w w'
theorem Keeps.trans {a b c : World} (h : Keeps a b) (k : Keeps b c) : Keeps a c := ⟨h.i.trans k.i, h.v.trans k.v, h.p.trans k.p⟩
theorem Keeps.of_below {w w' : World} (h : Below w.heap.size w w') : Keeps w w' := ⟨.of_below h, .of_below h, .of_below h⟩
def RowO {α : Type} (T : TypeId) (sz : Nat) (K : α → List Value → Prop) (B : Nat) (w : World) (A : Option Addr) (c : Nat) (xs : List α) : Prop :=
 ∃ gcs, w.ownsRow B T sz (.slice A xs.length c) xs.length gcs ∧ ∀ j x, xs[j]? = some x → K x ((gcs.drop (j * sz)).take sz)
section
variable {α : Type} {T : TypeId} {sz B : Nat} {K K' : α → List Value → Prop} {w w' : World} {A : Option Addr} {c : Nat} {xs : List α}
theorem RowO.nil : RowO T sz K B w none 0 [] := ⟨[], own_nil _ _ _ _, by simp⟩
theorem RowO.keep (h : RowO T sz K B w A c xs) (hT : Keep T w w') (hK : ∀ x cs, K x cs → K' x cs) : RowO T sz K' B w' A c xs := by
 obtain ⟨g, h1, h2⟩ := h
 exact ⟨g, hT.own h1, fun j x hx => hK _ _ (h2 j x hx)⟩
theorem RowO.fits (h : RowO T sz K B w A c xs) : Fits xs.length c := by
 obtain ⟨g, h1, h2⟩ := h
 exact (own_fits2 h1).2
theorem RowO.lie {ok : Nat → Prop} (h : RowO T sz K B w A c xs) (hsz : 0 < sz) (hok : ∀ g, B ≤ g → ok g) : Lie ok K sz w A xs := by
 obtain ⟨g, h1, h2⟩ := h
 exact Lie.of_own h1 hsz rfl h2 (fun g hg _ => hok g hg)
theorem RowO.snoc {A' : Option Addr} {c' : Nat} {gcs cs : List Value} {x : α} (hl : gcs.length = xs.length * sz) (h : w.ownsRow B T sz (.slice A' (xs.length + 1) c') (xs.length + 1) (gcs ++ cs)) (hK : ∀ j x, xs[j]? = some x → K x ((gcs.drop (j * sz)).take sz)) (hx : K x cs) (hs : cs.length = sz) : RowO T sz K B w A' c' (xs ++ [x]) := by
 refine ⟨gcs ++ cs, by simpa using h, fun j y hy => ?_⟩
 rcases Nat.lt_or_ge j xs.length with hj | hj
 ·rw [List.getElem?_append_left hj] at hy
  have h1 : j * sz + sz ≤ gcs.length := by rw [hl, ← Nat.succ_mul]; exact Nat.mul_le_mul_right _ hj
  rw [List.drop_append_of_le_length (by omega), List.take_append_of_le_length (by rw [List.length_drop]; omega)]
  exact hK j y hy
 ·rw [List.getElem?_append_right hj] at hy
  have h0 : j - xs.length < 1 := (List.getElem?_eq_some_iff.1 hy).1
  obtain rfl : j = xs.length := by omega
  rw [Nat.sub_self] at hy
  obtain rfl : x = y := by simpa using hy
  rw [← hl, List.drop_left, ← hs, List.take_length]
  exact hx
end
def VtO (B : Nat) (w : World) (v : Vt) (cs : List Value) : Prop := ∃ A c, cs = vtC v A c ∧ w.ownsRow B 3 1 (.slice A v.who.length c) v.who.length (v.who.map (Value.int .i64))
def PfO (B : Nat) (w : World) (p : Pf) (cs : List Value) : Prop := ∃ ca cb, cs = ca ++ cb ∧ VtO B w p.a ca ∧ VtO B w p.b cb
def BkO (B : Nat) (w : World) (b : Bk) (cs : List Value) : Prop := ∃ A c A2 c2, cs = bkC b A c A2 c2 ∧ RowO 53 7 (VtO B w) B w A c b.votes ∧ RowO 55 14 (PfO B w) B w A2 c2 b.proofs
def EvO (B : Nat) (w : World) (e : Ev) (cs : List Value) : Prop := ∃ cb cv cp, cs = .int .i64 e.kind :: .int .i64 e.slot :: (cb ++ (cv ++ cp)) ∧ BkO B w e.block cb ∧ VtO B w e.vote cv ∧ PfO B w e.proof cp
section
variable {B : Nat} {w w' : World}
theorem VtO.keep {v : Vt} {cs : List Value} (h : VtO B w v cs) (hk : Keep 3 w w') : VtO B w' v cs := by
 obtain ⟨A, c, rfl, h⟩ := h
 exact ⟨A, c, rfl, hk.own h⟩
theorem PfO.keep {v : Pf} {cs : List Value} (h : PfO B w v cs) (hk : Keep 3 w w') : PfO B w' v cs := by
 obtain ⟨ca, cb, rfl, h1, h2⟩ := h
 exact ⟨ca, cb, rfl, h1.keep hk, h2.keep hk⟩
theorem BkO.keep {v : Bk} {cs : List Value} (h : BkO B w v cs) (hk : Keeps w w') : BkO B w' v cs := by
 obtain ⟨A, c, A2, c2, rfl, h1, h2⟩ := h
 exact ⟨A, c, A2, c2, rfl, h1.keep hk.v (fun _ _ x => x.keep hk.i), h2.keep hk.p (fun _ _ x => x.keep hk.i)⟩
theorem EvO.keep {v : Ev} {cs : List Value} (h : EvO B w v cs) (hk : Keeps w w') : EvO B w' v cs := by
 obtain ⟨cb, cv, cp, rfl, h1, h2, h3⟩ := h
 exact ⟨cb, cv, cp, rfl, h1.keep hk, h2.keep hk.i, h3.keep hk.i⟩
theorem VtO.weak {B' : Nat} {v : Vt} {cs : List Value} (h : VtO B w v cs) (hb : B' ≤ B) : VtO B' w v cs := by
 obtain ⟨A, c, rfl, h⟩ := h
 exact ⟨A, c, rfl, own_weaken h hb⟩
theorem PfO.weak {B' : Nat} {v : Pf} {cs : List Value} (h : PfO B w v cs) (hb : B' ≤ B) : PfO B' w v cs := by
 obtain ⟨ca, cb, rfl, h1, h2⟩ := h
 exact ⟨ca, cb, rfl, h1.weak hb, h2.weak hb⟩
theorem RowO.weak {α : Type} {T : TypeId} {sz B' : Nat} {K K' : α → List Value → Prop} {A : Option Addr} {c : Nat} {xs : List α} (h : RowO T sz K B w A c xs) (hb : B' ≤ B) (hK : ∀ x cs, K x cs → K' x cs) : RowO T sz K' B' w A c xs := by
 obtain ⟨g, h1, h2⟩ := h
 exact ⟨g, own_weaken h1 hb, fun j x hx => hK _ _ (h2 j x hx)⟩
theorem BkO.weak {B' : Nat} {v : Bk} {cs : List Value} (h : BkO B w v cs) (hb : B' ≤ B) : BkO B' w v cs := by
 obtain ⟨A, c, A2, c2, rfl, h1, h2⟩ := h
 exact ⟨A, c, A2, c2, rfl, h1.weak hb (fun _ _ x => x.weak hb), h2.weak hb (fun _ _ x => x.weak hb)⟩
theorem VtO.k {v : Vt} {cs : List Value} (h : VtO B w v cs) : VtK (B ≤ ·) w v cs := by
 obtain ⟨A, c, rfl, h⟩ := h
 exact ⟨A, c, rfl, (own_fits2 h).2, Ints.of_own h⟩
theorem PfO.k {v : Pf} {cs : List Value} (h : PfO B w v cs) : PfK (B ≤ ·) w v cs := by
 obtain ⟨ca, cb, rfl, h1, h2⟩ := h
 exact ⟨ca, cb, rfl, h1.k, h2.k⟩
theorem BkO.k {v : Bk} {cs : List Value} (h : BkO B w v cs) : BkK (B ≤ ·) w v cs := by
 obtain ⟨A, c, A2, c2, rfl, h1, h2⟩ := h
 exact ⟨A, c, A2, c2, rfl, h1.fits, h2.fits, Lie.mono (h1.lie (by decide) (fun _ x => x)) (fun _ _ _ x => x.k) (fun _ x => x) (fun _ _ _ => rfl), Lie.mono (h2.lie (by decide) (fun _ x => x)) (fun _ _ _ x => x.k) (fun _ x => x) (fun _ _ _ => rfl)⟩
theorem EvO.k {v : Ev} {cs : List Value} (h : EvO B w v cs) : EvK (B ≤ ·) w v cs := by
 obtain ⟨cb, cv, cp, rfl, h1, h2, h3⟩ := h
 exact ⟨cb, cv, cp, rfl, h1.k, h2.k, h3.k⟩
theorem VtO.zero : VtO B w Vt.zero (vtC Vt.zero none 0) := ⟨none, 0, rfl, own_nil _ _ _ _⟩
theorem PfO.zero : PfO B w Pf.zero (vtC Vt.zero none 0 ++ vtC Vt.zero none 0) := ⟨_, _, rfl, VtO.zero, VtO.zero⟩
theorem BkO.zero : BkO B w Bk.zero (bkC Bk.zero none 0 none 0) := ⟨none, 0, none, 0, rfl, RowO.nil, RowO.nil⟩
theorem VtO.len {v : Vt} {cs : List Value} (h : VtO B w v cs) : cs.length = 7 ∧ ∀ u ∈ cs, u.oneCell' = true := by
 obtain ⟨A, c, rfl, h⟩ := h
 exact ⟨rfl, by simp [vtC, Value.oneCell']⟩
theorem PfO.len {v : Pf} {cs : List Value} (h : PfO B w v cs) : cs.length = 14 ∧ ∀ u ∈ cs, u.oneCell' = true := by
 obtain ⟨ca, cb, rfl, h1, h2⟩ := h
 refine ⟨by rw [List.length_append, h1.len.1, h2.len.1], fun u hu => ?_⟩
 rcases List.mem_append.1 hu with hu | hu
 ·exact h1.len.2 u hu
 ·exact h2.len.2 u hu
end
theorem flat_newO {w : World} {t : TypeId} {cs : List Value} : Flat (w.alloc (.cells cs.toArray t)) (some ⟨w.heap.size, 0, none⟩) cs :=
 fun _ => ⟨⟨w.heap.size, 0, none⟩, rfl, fun j u hj => by rw [show (⟨w.heap.size, 0, none⟩ : Addr).add j = ⟨w.heap.size, j, none⟩ from by simp [Addr.add]; omega, blk_cell (heap_new w _)]; simpa using hj⟩
theorem infoVt : (Tryz.prog.info? 53).map (fun i => (i.zero, i.size, i.bytes)) = some (some (.agg #[.int .i64 0, .int .u64 0, .int .i64 0, .int .u64 0, .int .i64 0, .int .u64 0, .slice none 0 0]), 7, 72) := by kernel_rfl
theorem infoPf : (Tryz.prog.info? 55).map (fun i => (i.zero, i.size, i.bytes)) = some (some (.agg #[.int .i64 0, .int .u64 0, .int .i64 0, .int .u64 0, .int .i64 0, .int .u64 0, .slice none 0 0, .int .i64 0, .int .u64 0, .int .i64 0, .int .u64 0, .int .i64 0, .int .u64 0, .slice none 0 0]), 14, 144) := by kernel_rfl
theorem iBk : (Tryz.prog.info? 50).map (·.size) = some 5 := by kernel_rfl
theorem zBk (W : World) : (zeroValue 50).run Tryz.prog W = .ok (.agg #[.int .u64 0, .int .u64 0, .int .i64 0, .slice none 0 0, .slice none 0 0]) W := by kernel_rfl
end Go.Proofs.YtnppimhlfcjghaaGreat
namespace Go.Proofs.YtnppimhlfcjghaaGreat
open Go.RowKit
set_option maxRecDepth 100000
theorem MkAt.cell2 {w : World} {mb base sb : Nat} {ns : List Int} {A : Option Addr} {kn : Nat} {bl : List Int} {bv : Value} (h : MkAt w mb base sb ns A kn bl bv) : w.cell? ⟨mb, 2, none⟩ = some bv := by rw [blk_cell h.blk]; rfl
structure EvM (w : World) (mb B base : Nat) (bl : List Int) (bv : Value) (p : Places) (s : St) (k vk : Nat) (ch : Value) (zs : List Value) (W : World) : Prop where
 mm : ∃ ns A kn, MkAt W mb base p.sb ns A kn bl bv
 st : StoreAt W p s k vk ch
 q : W.heap[B]? = some (.cells zs.toArray 57 (0, 0))
 x : Ext (fun i => i = mb) w W
section
variable {w W W' : World} {mb B base k vk : Nat} {bl : List Int} {bv ch : Value} {p : Places} {s : St} {zs : List Value}
theorem EvM.step (h : EvM w mb B base bl bv p s k vk ch zs W) {ns : List Int} {A : Option Addr} {kn : Nat} (hM : MkAt W' mb base p.sb ns A kn bl bv) (hx : Ext (fun i => i = mb) W W') (hne : B ≠ mb) (hmb : mb ∉ p.all) : EvM w mb B base bl bv p s k vk ch zs W' := by
 obtain ⟨_, _, _, hM0⟩ := h.mm
 exact ⟨⟨_, _, _, hM⟩, h.st.turn hx (fun i hi e => hmb ((show i = mb from e) ▸ hi)) (keep_cells hM0.blk hx (by decide)), blk_ext h.q hx hne, h.x.trans hx (fun _ _ h => h)⟩
theorem EvM.below (h : EvM w mb B base bl bv p s k vk ch zs W) (hb : Below W.heap.size W W') : EvM w mb B base bl bv p s k vk ch zs W' := by
 obtain ⟨_, _, _, hM⟩ := h.mm
 exact ⟨⟨_, _, _, hM.below hb⟩, h.st.below hb, blk_below h.q hb, h.x.thenBelow hb⟩
theorem EvM.turn (h : EvM w mb B base bl bv p s k vk ch zs W) {b : Nat} {cs : Array Value} {t : TypeId} (hq : W.heap[b]? = some (.cells cs t (0, 0))) (ht : t ≠ 103 ∧ t ≠ 23 ∧ t ≠ 4 ∧ t ≠ 57) (hbb : base ≤ b) (hwb : w.heap.size ≤ b) (hpb : b ∉ p.all) (hx : Ext (fun i => i = b) W W') : EvM w mb B base bl bv p s k vk ch zs W' := by
 obtain ⟨_, _, _, hM⟩ := h.mm
 refine ⟨⟨_, _, _, hM.ext hq ⟨ht.1, ht.2.1⟩ hbb hx⟩, h.st.turn hx (fun i hi e => hpb ((show i = b from e) ▸ hi)) (keep_cells hq hx ht.2.2.1), blk_ext h.q hx (fun e => ?_), ext_new h.x hx hwb⟩
 have e' : B = b := e
 subst e'
 have := h.q
 rw [hq] at this
 injection this with this
 injection this with _ e2 _
 exact ht.2.2.2 e2
theorem EvM.grown (h : EvM w mb B base bl bv p s k vk ch zs W) {bs n size : Nat} {e : TypeId} {v : Value} {xs : List Value} (ho : W.ownsRow bs e size v n xs) (ht : e ≠ 103 ∧ e ≠ 23 ∧ e ≠ 4 ∧ e ≠ 57) (hbb : base ≤ bs) (hwb : w.heap.size ≤ bs) (hp : ∀ i ∈ p.all, i < bs) (hg : W.grownBy W' v.ownBlock) : EvM w mb B base bl bv p s k vk ch zs W' := by
 obtain ⟨_, _, _, hM⟩ := h.mm
 have hx : Ext (fun i => some i = v.ownBlock) W W' := (Ext.refl _ _).grown hg (fun b hb => .inl hb.symm)
 have hb := own_base ho
 refine ⟨⟨_, _, _, hM.extF hx (fun e => own_type_ne ho hM.blk ht.1 e) (fun i hi e => by have := hb i e.symm; omega) (fun g hg' e => own_typed hM.rb ho (Ne.symm ht.2.1) hg' e.symm)⟩, h.st.turn hx (fun i hi e => by have := hb i e.symm; have := hp i hi; omega) (KeepB.of_ext hx (fun b cs hb e => own_type_ne ho hb ht.2.2.1 e)), blk_ext h.q hx (fun e => own_type_ne ho h.q ht.2.2.2 e), ?_⟩
 exact h.x.trans hx (fun i hi e => by have := hb i e.symm; omega)
theorem EvM.lowb (h : EvM w mb B base bl bv p s k vk ch zs W) : base ≤ mb := by
 obtain ⟨_, _, _, hM⟩ := h.mm
 exact hM.mb
theorem EvM.next (h : EvM w mb B base bl bv p s k vk ch zs W) (hne : B ≠ mb) (hmb : mb ∉ p.all) (n : Int) (hn : 0 < n ∧ n ≤ 1000000) :
    Calls Tryz.prog 56 #[.pointer (some ⟨mb, 0, none⟩), .int .i64 n] W fun e W' => ∃ x, e = .returned (.int .i64 x) ∧ (0 ≤ x ∧ x < n) ∧ EvM w mb B base bl bv p s k vk ch zs W' ∧ Ext (fun i => i = mb) W W' := by
 obtain ⟨_, _, _, hM⟩ := h.mm
 refine (next_calls hM n hn).mono ?_
 rintro e W' ⟨x, ns', A', kn', rfl, hx, hM', hxt⟩
 exact ⟨x, rfl, hx, h.step hM' hxt hne hmb, hxt⟩
theorem EvM.vote (h : EvM w mb B base bl bv p s k vk ch zs W) (hne : B ≠ mb) (hmb : mb ∉ p.all) (hs : s.ok) (hp : ∀ i ∈ p.all, i < B) (r t : Int) (hr : inU r) (ht : 0 ≤ t ∧ t ≤ 1099511627776) :
    Calls Tryz.prog 58 #[.pointer (some ⟨mb, 0, none⟩), .int .u64 r, .int .i64 t] W fun e W' => ∃ (v : Vt) (Av : Option Addr) (cv : Nat), e = .returned (.agg #[.int .i64 v.slot, .int .u64 v.head, .int .i64 v.src.e, .int .u64 v.src.r, .int .i64 v.tgt.e, .int .u64 v.tgt.r, .slice Av v.who.length cv]) ∧ v.wf ∧ W'.ownsRow W.heap.size 3 1 (.slice Av v.who.length cv) v.who.length (v.who.map (Value.int .i64)) ∧ EvM w mb B base bl bv p s k vk ch zs W' ∧ Ext (fun i => i = mb) W W' := by
 obtain ⟨_, _, _, hM⟩ := h.mm
 have hlt := blk_lt h.q
 refine (mvote_calls hM h.st hs (fun i hi => by have := hp i hi; omega) hmb r t hr ht).mono ?_
 rintro e W' ⟨v, Av, cv, ns', A', kn', rfl, hvw, _, _, ho, hM', hxt⟩
 exact ⟨v, Av, cv, rfl, hvw, ho, h.step hM' hxt hne hmb, hxt⟩
theorem EvM.keeps (h : EvM w mb B base bl bv p s k vk ch zs W) (hx : Ext (fun i => i = mb) W W') : Keeps W W' := by
 obtain ⟨_, _, _, hM⟩ := h.mm
 exact ⟨Keep.of_ext hx hM.blk (by decide), Keep.of_ext hx hM.blk (by decide), Keep.of_ext hx hM.blk (by decide)⟩
end
end Go.Proofs.YtnppimhlfcjghaaGreat
