/- What the reader makes, as it lies in memory: rows of the call's own, in blocks known by their types. -/
import Derived.Test.YtccficljaomhhaaDoorDec3
namespace Go.Proofs.YtccficljaomhhaaDoor
open Go.RowKit
/-- Blocks of this type stay. -/
def Keep (T : TypeId) (w w' : World) : Prop := ∀ (g : Nat) (cs : Array Value) (f : Nat × Nat), w.heap[g]? = some (Obj.cells cs T f) → w'.heap[g]? = some (Obj.cells cs T f)
section
variable {T : TypeId} {w w' w2 : World}
theorem Keep.refl (T : TypeId) (w : World) : Keep T w w := fun _ _ _ h => h
theorem Keep.trans (h : Keep T w w') (k : Keep T w' w2) : Keep T w w2 := fun g cs f hg => k g cs f (h g cs f hg)
theorem Keep.own {base size n : Nat} {v : Value} {xs : List Value} (h : Keep T w w') (ho : w.ownsRow base T size v n xs) : w'.ownsRow base T size v n xs := by
  rcases ho with ⟨hl, h1 | ⟨g, cap, cur, rfl, hbg, hh, r⟩⟩
  · exact ⟨hl, .inl h1⟩
  · exact ⟨hl, .inr ⟨g, cap, cur, rfl, hbg, h _ _ _ hh, r⟩⟩
theorem Keep.of_below (h : Below w.heap.size w w') : Keep T w w' := fun _ _ _ hg => blk_below hg h
theorem Keep.of_ext {R : Nat} {TR : TypeId} {cs : Array Value} {f : Nat × Nat} (h : Ext (· = R) w w') (hR : w.heap[R]? = some (.cells cs TR f)) (hne : T ≠ TR) : Keep T w w' := fun g cs' f' hg =>
  blk_ext hg h (fun e => by subst e; rw [hR] at hg; cases hg; exact hne rfl)
theorem Keep.grown {base size n : Nat} {e : TypeId} {v : Value} {xs : List Value} (ho : w.ownsRow base e size v n xs) (hne : e ≠ T) (hg : w.grownBy w' v.ownBlock) : Keep T w w' := fun _ _ _ h => blk_app h ho hne hg
theorem Keep.set {V : Nat} {TV : TypeId} {cs : Array Value} {f : Nat × Nat} (hV : w.heap[V]? = some (.cells cs TV f)) (hne : T ≠ TV) (i : Nat) (u : Value) : Keep T w (w.setCell ⟨V, i, none⟩ u) :=
  Keep.of_ext ((Ext.refl (· = V) w).setCell (.inl rfl) u) hV hne
theorem Keep.sets {V : Nat} {TV : TypeId} {cs : Array Value} {f : Nat × Nat} (hV : w.heap[V]? = some (.cells cs TV f)) (hne : T ≠ TV) (us : List Value) : Keep T w (w.setCells V 0 us) :=
  Keep.of_ext (Ext.sets (F := (· = V)) rfl us 0 (Ext.refl _ w)) hV hne
end
structure Keeps (w w' : World) : Prop where
  i : Keep 3 w w'
  v : Keep 36 w w'
  p : Keep 38 w w'
theorem Keeps.trans {a b c : World} (h : Keeps a b) (k : Keeps b c) : Keeps a c := ⟨h.i.trans k.i, h.v.trans k.v, h.p.trans k.p⟩
theorem Keeps.of_below {w w' : World} (h : Below w.heap.size w w') : Keeps w w' := ⟨.of_below h, .of_below h, .of_below h⟩
theorem RS.keep {B R : Nat} {A : Option Addr} {n c : Nat} {bs : List Int} {w w' : World} {s : Rd} (h : RS B R A n c bs w s) (hx : Ext (· = R) w w') {T : TypeId} (hne : T ≠ 61) : Keep T w w' := by
  obtain ⟨_, _, _, _, _, p, q, hq, h5, h6, h7⟩ := h
  exact Keep.of_ext hx h7 hne
theorem RS.keeps {B R : Nat} {A : Option Addr} {n c : Nat} {bs : List Int} {w w' : World} {s : Rd} (h : RS B R A n c bs w s) (hx : Ext (· = R) w w') : Keeps w w' := ⟨h.keep hx (by decide), h.keep hx (by decide), h.keep hx (by decide)⟩
/-- A row of the call's own, element by element. -/
def RowO {α : Type} (T : TypeId) (sz : Nat) (K : α → List Value → Prop) (B : Nat) (w : World) (A : Option Addr) (c : Nat) (xs : List α) : Prop :=
  ∃ gcs, w.ownsRow B T sz (.slice A xs.length c) xs.length gcs ∧ ∀ j x, xs[j]? = some x → K x ((gcs.drop (j * sz)).take sz)
section
variable {α : Type} {T : TypeId} {sz B : Nat} {K K' : α → List Value → Prop} {w w' : World} {A : Option Addr} {c : Nat} {xs : List α}
theorem RowO.nil : RowO T sz K B w none 0 [] := ⟨[], own_nil _ _ _ _, by simp⟩
theorem RowO.keep (h : RowO T sz K B w A c xs) (hT : Keep T w w') (hK : ∀ x cs, K x cs → K' x cs) : RowO T sz K' B w' A c xs := by
  obtain ⟨g, h1, h2⟩ := h
  exact ⟨g, hT.own h1, fun j x hx => hK _ _ (h2 j x hx)⟩
theorem RowO.fits (h : RowO T sz K B w A c xs) : Fits xs.length c := by
  obtain ⟨g, h1, h2⟩ := h
  exact (own_fits h1).2
theorem RowO.lie {ok : Nat → Prop} (h : RowO T sz K B w A c xs) (hsz : 0 < sz) (hok : ∀ g, B ≤ g → ok g) : Lie ok K sz w A xs := by
  obtain ⟨g, h1, h2⟩ := h
  exact Lie.of_own h1 hsz rfl h2 (fun g hg _ => hok g hg)
theorem RowO.snoc {A' : Option Addr} {c' : Nat} {gcs cs : List Value} {x : α} (hl : gcs.length = xs.length * sz) (h : w.ownsRow B T sz (.slice A' (xs.length + 1) c') (xs.length + 1) (gcs ++ cs)) (hK : ∀ j x, xs[j]? = some x → K x ((gcs.drop (j * sz)).take sz)) (hx : K x cs) (hs : cs.length = sz) : RowO T sz K B w A' c' (xs ++ [x]) := by
  refine ⟨gcs ++ cs, by simpa using h, fun j y hy => ?_⟩
  rcases Nat.lt_or_ge j xs.length with hj | hj
  · rw [List.getElem?_append_left hj] at hy
    have h1 : j * sz + sz ≤ gcs.length := by rw [hl, ← Nat.succ_mul]; exact Nat.mul_le_mul_right _ hj
    rw [List.drop_append_of_le_length (by omega), List.take_append_of_le_length (by rw [List.length_drop]; omega)]
    exact hK j y hy
  · rw [List.getElem?_append_right hj] at hy
    have h0 : j - xs.length < 1 := (List.getElem?_eq_some_iff.1 hy).1
    obtain rfl : j = xs.length := by omega
    rw [Nat.sub_self] at hy
    obtain rfl : x = y := by simpa using hy
    rw [← hl, List.drop_left, ← hs, List.take_length]
    exact hx
end
def VtO (B : Nat) (w : World) (v : Vt) (cs : List Value) : Prop := ∃ A c, cs = vtC v A c ∧ w.ownsRow B 3 1 (.slice A v.who.length c) v.who.length (v.who.map (Value.int .i64))
def PfO (B : Nat) (w : World) (p : Pf) (cs : List Value) : Prop := ∃ ca cb, cs = ca ++ cb ∧ VtO B w p.a ca ∧ VtO B w p.b cb
def BkO (B : Nat) (w : World) (b : Bk) (cs : List Value) : Prop := ∃ A c A2 c2, cs = bkC b A c A2 c2 ∧ RowO 36 7 (VtO B w) B w A c b.votes ∧ RowO 38 14 (PfO B w) B w A2 c2 b.proofs
def EvO (B : Nat) (w : World) (e : Ev) (cs : List Value) : Prop := ∃ cb cv cp, cs = .int .i64 e.kind :: .int .i64 e.slot :: (cb ++ (cv ++ cp)) ∧ BkO B w e.block cb ∧ VtO B w e.vote cv ∧ PfO B w e.proof cp
section
variable {B : Nat} {w w' : World}
theorem VtO.keep {v : Vt} {cs : List Value} (h : VtO B w v cs) (hk : Keep 3 w w') : VtO B w' v cs := by
  obtain ⟨A, c, rfl, h⟩ := h
  exact ⟨A, c, rfl, hk.own h⟩
theorem PfO.keep {v : Pf} {cs : List Value} (h : PfO B w v cs) (hk : Keep 3 w w') : PfO B w' v cs := by
  obtain ⟨ca, cb, rfl, h1, h2⟩ := h
  exact ⟨ca, cb, rfl, h1.keep hk, h2.keep hk⟩
theorem BkO.keep {v : Bk} {cs : List Value} (h : BkO B w v cs) (hk : Keeps w w') : BkO B w' v cs := by
  obtain ⟨A, c, A2, c2, rfl, h1, h2⟩ := h
  exact ⟨A, c, A2, c2, rfl, h1.keep hk.v (fun _ _ x => x.keep hk.i), h2.keep hk.p (fun _ _ x => x.keep hk.i)⟩
theorem EvO.keep {v : Ev} {cs : List Value} (h : EvO B w v cs) (hk : Keeps w w') : EvO B w' v cs := by
  obtain ⟨cb, cv, cp, rfl, h1, h2, h3⟩ := h
  exact ⟨cb, cv, cp, rfl, h1.keep hk, h2.keep hk.i, h3.keep hk.i⟩
theorem VtO.weak {B' : Nat} {v : Vt} {cs : List Value} (h : VtO B w v cs) (hb : B' ≤ B) : VtO B' w v cs := by
  obtain ⟨A, c, rfl, h⟩ := h
  exact ⟨A, c, rfl, own_weaken h hb⟩
theorem PfO.weak {B' : Nat} {v : Pf} {cs : List Value} (h : PfO B w v cs) (hb : B' ≤ B) : PfO B' w v cs := by
  obtain ⟨ca, cb, rfl, h1, h2⟩ := h
  exact ⟨ca, cb, rfl, h1.weak hb, h2.weak hb⟩
theorem RowO.weak {α : Type} {T : TypeId} {sz B' : Nat} {K K' : α → List Value → Prop} {A : Option Addr} {c : Nat} {xs : List α} (h : RowO T sz K B w A c xs) (hb : B' ≤ B) (hK : ∀ x cs, K x cs → K' x cs) : RowO T sz K' B' w A c xs := by
  obtain ⟨g, h1, h2⟩ := h
  exact ⟨g, own_weaken h1 hb, fun j x hx => hK _ _ (h2 j x hx)⟩
theorem BkO.weak {B' : Nat} {v : Bk} {cs : List Value} (h : BkO B w v cs) (hb : B' ≤ B) : BkO B' w v cs := by
  obtain ⟨A, c, A2, c2, rfl, h1, h2⟩ := h
  exact ⟨A, c, A2, c2, rfl, h1.weak hb (fun _ _ x => x.weak hb), h2.weak hb (fun _ _ x => x.weak hb)⟩
theorem VtO.k {v : Vt} {cs : List Value} (h : VtO B w v cs) : VtK (B ≤ ·) w v cs := by
  obtain ⟨A, c, rfl, h⟩ := h
  exact ⟨A, c, rfl, (own_fits h).2, Ints.of_own h⟩
theorem PfO.k {v : Pf} {cs : List Value} (h : PfO B w v cs) : PfK (B ≤ ·) w v cs := by
  obtain ⟨ca, cb, rfl, h1, h2⟩ := h
  exact ⟨ca, cb, rfl, h1.k, h2.k⟩
theorem BkO.k {v : Bk} {cs : List Value} (h : BkO B w v cs) : BkK (B ≤ ·) w v cs := by
  obtain ⟨A, c, A2, c2, rfl, h1, h2⟩ := h
  exact ⟨A, c, A2, c2, rfl, h1.fits, h2.fits, Lie.mono (h1.lie (by decide) (fun _ x => x)) (fun _ _ _ x => x.k) (fun _ x => x) (fun _ _ _ => rfl), Lie.mono (h2.lie (by decide) (fun _ x => x)) (fun _ _ _ x => x.k) (fun _ x => x) (fun _ _ _ => rfl)⟩
theorem EvO.k {v : Ev} {cs : List Value} (h : EvO B w v cs) : EvK (B ≤ ·) w v cs := by
  obtain ⟨cb, cv, cp, rfl, h1, h2, h3⟩ := h
  exact ⟨cb, cv, cp, rfl, h1.k, h2.k, h3.k⟩
theorem VtO.zero : VtO B w Vt.zero (vtC Vt.zero none 0) := ⟨none, 0, rfl, own_nil _ _ _ _⟩
theorem PfO.zero : PfO B w Pf.zero (vtC Vt.zero none 0 ++ vtC Vt.zero none 0) := ⟨_, _, rfl, VtO.zero, VtO.zero⟩
theorem BkO.zero : BkO B w Bk.zero (bkC Bk.zero none 0 none 0) := ⟨none, 0, none, 0, rfl, RowO.nil, RowO.nil⟩
theorem VtO.len {v : Vt} {cs : List Value} (h : VtO B w v cs) : cs.length = 7 ∧ ∀ u ∈ cs, u.oneCell' = true := by
  obtain ⟨A, c, rfl, h⟩ := h
  exact ⟨rfl, by simp [vtC, Value.oneCell']⟩
theorem PfO.len {v : Pf} {cs : List Value} (h : PfO B w v cs) : cs.length = 14 ∧ ∀ u ∈ cs, u.oneCell' = true := by
  obtain ⟨ca, cb, rfl, h1, h2⟩ := h
  refine ⟨by rw [List.length_append, h1.len.1, h2.len.1], fun u hu => ?_⟩
  rcases List.mem_append.1 hu with hu | hu
  · exact h1.len.2 u hu
  · exact h2.len.2 u hu
end
theorem flat_new {w : World} {t : TypeId} {cs : List Value} : Flat (w.alloc (.cells cs.toArray t)) (some ⟨w.heap.size, 0, none⟩) cs :=
  fun _ => ⟨⟨w.heap.size, 0, none⟩, rfl, fun j u hj => by rw [show (⟨w.heap.size, 0, none⟩ : Addr).add j = ⟨w.heap.size, j, none⟩ from by simp [Addr.add]; omega, blk_cell (heap_new w _)]; simpa using hj⟩
theorem infoVt : (Tryd.prog.info? 36).map (fun i => (i.zero, i.size, i.bytes)) = some (some (.agg #[.int .i64 0, .int .u64 0, .int .i64 0, .int .u64 0, .int .i64 0, .int .u64 0, .slice none 0 0]), 7, 72) := by kernel_rfl
theorem infoPf : (Tryd.prog.info? 38).map (fun i => (i.zero, i.size, i.bytes)) = some (some (.agg #[.int .i64 0, .int .u64 0, .int .i64 0, .int .u64 0, .int .i64 0, .int .u64 0, .slice none 0 0, .int .i64 0, .int .u64 0, .int .i64 0, .int .u64 0, .int .i64 0, .int .u64 0, .slice none 0 0]), 14, 144) := by kernel_rfl
theorem iBk : (Tryd.prog.info? 31).map (·.size) = some 5 := by kernel_rfl
theorem zBk (W : World) : (zeroValue 31).run Tryd.prog W = .ok (.agg #[.int .u64 0, .int .u64 0, .int .i64 0, .slice none 0 0, .slice none 0 0]) W := by kernel_rfl
end Go.Proofs.YtccficljaomhhaaDoor
