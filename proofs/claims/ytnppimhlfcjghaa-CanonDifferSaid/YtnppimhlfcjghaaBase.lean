/- Words of this work: which blocks turn, how lists lie in memory, maps. No program in it. -/
import Derived.WalkKit
import Derived.Below
import Derived.Deep.Draws
import Derived.Maps.RangeRun
import Derived.Maps.AppendAt
import Derived.Deep.AppendLies
import Derived.Laws.MakeOwn
import Derived.Laws.OwnMore
import Derived.MapKept
import Derived.Lib.Hide
namespace Go.Proofs.Ytnppimhlfcjghaa
open Go.RowKit

/-! ## Which blocks turn -/
/-- Only blocks of F, and new ones, have turned. -/
structure Ext (F : Nat → Prop) (w w' : World) : Prop where
  os : w'.os = w.os
  tape : w'.tape = w.tape
  output : w'.output = w.output
  size : w.heap.size ≤ w'.heap.size
  block : ∀ k, k < w.heap.size → ¬ F k → w'.heap[k]? = w.heap[k]?
theorem Ext.refl (F : Nat → Prop) (w : World) : Ext F w w := ⟨rfl, rfl, rfl, Nat.le_refl _, fun _ _ _ => rfl⟩
theorem Ext.trans {F G : Nat → Prop} {a b c : World} (h : Ext F a b) (k : Ext G b c) (hg : ∀ i, i < a.heap.size → G i → F i) : Ext F a c :=
  ⟨k.os.trans h.os, k.tape.trans h.tape, k.output.trans h.output, Nat.le_trans h.size k.size, fun i hi hf =>
    (k.block i (Nat.lt_of_lt_of_le hi h.size) (fun hgi => hf (hg i hi hgi))).trans (h.block i hi hf)⟩
theorem Ext.mono {F G : Nat → Prop} {a b : World} (h : Ext F a b) (hg : ∀ i, i < a.heap.size → F i → G i) : Ext G a b :=
  ⟨h.os, h.tape, h.output, h.size, fun i hi hf => h.block i hi (fun x => hf (hg i hi x))⟩
theorem Ext.of_below {F : Nat → Prop} {w w' : World} (h : Below w.heap.size w w') : Ext F w w' :=
  ⟨h.os, h.tape, h.output, h.size, fun i hi _ => h.block i hi⟩
theorem Ext.of_lt {B : Nat} {w w' : World} (h : Below B w w') : Ext (fun b => ¬ b < B) w w' := ⟨h.os, h.tape, h.output, h.size, fun i _ hf => h.block i (Decidable.of_not_not hf)⟩
theorem Ext.below {w w' : World} {F : Nat → Prop} (h : Ext F w w') {B : Nat} (hB : B ≤ w.heap.size) (hF : ∀ i, i < B → ¬ F i) : Below B w w' :=
  ⟨h.os, h.tape, h.output, h.size, fun i hi => h.block i (Nat.lt_of_lt_of_le hi hB) (hF i hi)⟩
theorem Ext.drew {F : Nat → Prop} {a w : World} (h : Ext F a w) : Ext F a w.drew := ⟨h.os, h.tape, h.output, h.size, h.block⟩
theorem Ext.drewN {F : Nat → Prop} {a w : World} (h : Ext F a w) (n : Nat) : Ext F a (w.drewN n) := ⟨h.os, h.tape, h.output, h.size, h.block⟩
theorem Ext.alloc {F : Nat → Prop} {a w : World} (h : Ext F a w) (o : Obj) : Ext F a (w.alloc o) :=
  h.trans (Ext.of_below (F := fun _ => False) ((Below.refl _ _).alloc (Nat.le_refl _) o)) (fun _ _ x => x.elim)
theorem Ext.setCell {F : Nat → Prop} {a w : World} (h : Ext F a w) {p : Addr} (hp : F p.block ∨ a.heap.size ≤ p.block) (u : Value) : Ext F a (w.setCell p u) :=
  h.trans (G := fun i => i = p.block) ⟨rfl, rfl, rfl, by simp [World.setCell], fun k _ hk => Below.heap_setCell _ _ _ _ hk⟩
    (fun i hi hg => by subst hg; rcases hp with hp | hp; exact hp; omega)
theorem Ext.grown {F : Nat → Prop} {a w w' : World} {row : Option Nat} (h : Ext F a w) (hg : w.grownBy w' row) (hr : ∀ k, row = some k → F k ∨ a.heap.size ≤ k) : Ext F a w' :=
  h.trans (G := fun i => some i = row) ⟨hg.os, hg.tape, hg.output, hg.size, fun k hk hne => hg.block k hk hne⟩
    (fun i hi hgi => by rcases hr i hgi.symm with x | x; exact x; omega)
theorem Ext.thenBelow {F : Nat → Prop} {a b c : World} (h : Ext F a b) (k : Below b.heap.size b c) : Ext F a c :=
  h.trans (Ext.of_below (F := fun _ => False) k) (fun _ _ x => x.elim)
theorem below_then {a b c : World} {B : Nat} (h : Below B a b) (hB : B ≤ b.heap.size) (k : Below b.heap.size b c) : Below B a c := h.trans (k.mono hB)
theorem below_trans {a b c : World} (h : Below a.heap.size a b) (k : Below b.heap.size b c) : Below a.heap.size a c := h.trans (k.mono h.size)
theorem below_alloc {w W : World} (h : Below w.heap.size w W) (o : Obj) : Below w.heap.size w (W.alloc o) := h.alloc h.size o
theorem below_alloc' {B : Nat} {w W : World} (h : Below B w W) (hB : B ≤ w.heap.size) (o : Obj) : Below B w (W.alloc o) := h.alloc (Nat.le_trans hB h.size) o
theorem undrew {w w' : World} (h : Below w.drew.heap.size w.drew w') : Below w.heap.size w w' := ⟨h.os, h.tape, h.output, h.size, h.block⟩
theorem below_drewN {B : Nat} {w W : World} (h : Below B w W) (n : Nat) : Below B w (W.drewN n) := ⟨h.os, h.tape, h.output, h.size, h.block⟩

/-- The heap's size by a name of its own. -/
theorem size_hid (w : World) : ∃ B, Hid (w.heap.size = B) ∧ w.heap.size ≤ B ∧ B ≤ w.heap.size := ⟨w.heap.size, rfl, Nat.le_refl _, Nat.le_refl _⟩

theorem heap_new (w : World) (o : Obj) : (w.alloc o).heap[w.heap.size]? = some o := heap_alloc_new w o
theorem heap_new1 (w : World) (o1 o2 : Obj) : ((w.alloc o1).alloc o2).heap[w.heap.size + 1]? = some o2 := by simpa using heap_alloc_new (w.alloc o1) o2
theorem heap_new2 (w : World) (o1 o2 o3 : Obj) : (((w.alloc o1).alloc o2).alloc o3).heap[w.heap.size + 2]? = some o3 := by simpa using heap_alloc_new ((w.alloc o1).alloc o2) o3
theorem ret_bool {a b : Bool} (h : a = b) : Ending.returned (.bool a) = Ending.returned (.bool b) := by rw [h]
theorem ret_int {k : IntKind} {a b : Int} (h : a = b) : Ending.returned (.int k a) = Ending.returned (.int k b) := by rw [h]

/-! ## Blocks and cells -/
theorem blk_lt {w : World} {g : Nat} {o : Obj} (h : w.heap[g]? = some o) : g < w.heap.size := (Array.getElem?_eq_some_iff.1 h).1
theorem blk_below {w w1 : World} {g : Nat} {o : Obj} (h : w.heap[g]? = some o) (hb : Below w.heap.size w w1) : w1.heap[g]? = some o := (hb.block g (blk_lt h)).trans h
theorem blk_ext {w w1 : World} {F : Nat → Prop} {g : Nat} {o : Obj} (h : w.heap[g]? = some o) (hb : Ext F w w1) (hg : ¬ F g) : w1.heap[g]? = some o := (hb.block g (blk_lt h) hg).trans h
theorem blk_cell {w : World} {g : Nat} {t : TypeId} {cs : Array Value} {f : Nat × Nat} (h : w.heap[g]? = some (.cells cs t f)) (i : Nat) : w.cell? ⟨g, i, none⟩ = cs[i]? := by simp [World.cell?, h]
theorem blk_frozen {w : World} {g : Nat} {t : TypeId} {cs : Array Value} (h : w.heap[g]? = some (.cells cs t (0, 0))) (i : Nat) : w.frozen? ⟨g, i, none⟩ = false := by simp [World.frozen?, h]
theorem cell_lt {w : World} {p : Addr} {v : Value} (h : w.cell? p = some v) : p.block < w.heap.size := World.block_lt_of_cell? w p h
theorem cell_below {w w1 : World} {p : Addr} {v : Value} (h : w.cell? p = some v) (hb : Below w.heap.size w w1) : w1.cell? p = some v := (hb.cell (cell_lt h)).trans h
theorem cell_ext {w w1 : World} {F : Nat → Prop} {p : Addr} {v : Value} (h : w.cell? p = some v) (hb : Ext F w w1) (hg : ¬ F p.block) : w1.cell? p = some v :=
  (World.cell?_of_block (hb.block p.block (cell_lt h) hg)).trans h

theorem blk_set {w : World} {g : Nat} {t : TypeId} {cs : Array Value} {f : Nat × Nat} (h : w.heap[g]? = some (.cells cs t f)) (i : Nat) (u : Value) : (w.setCell ⟨g, i, none⟩ u).heap[g]? = some (.cells (cs.setIfInBounds i u) t f) := by
  simp [World.setCell, Array.getElem?_modify, h]
theorem blk_far {w : World} {g : Nat} {o : Obj} (h : w.heap[g]? = some o) {p : Addr} (hp : g ≠ p.block) (u : Value) : (w.setCell p u).heap[g]? = some o := (Below.heap_setCell _ _ _ _ hp).trans h

/-! ## Lists in memory -/
/-- From the address A on lie the elements of xs, sz cells each, in a block of which 'ok' holds. -/
def Lie {α : Type} (ok : Nat → Prop) (K : α → List Value → Prop) (sz : Nat) (w : World) (A : Option Addr) (xs : List α) : Prop :=
  0 < xs.length → ∃ b o, A = some ⟨b, o, none⟩ ∧ ok b ∧ ∀ j x, xs[j]? = some x → ∃ cs, K x cs ∧ cs.length = sz ∧ ∀ i u, cs[i]? = some u → w.cell? ⟨b, o + (j * sz + i), none⟩ = some u
theorem Lie.nil {α : Type} {ok : Nat → Prop} {K : α → List Value → Prop} {sz : Nat} {w : World} {A : Option Addr} : Lie ok K sz w A [] := fun h => absurd h (by simp)
theorem Lie.mono {α : Type} {ok ok' : Nat → Prop} {K K' : α → List Value → Prop} {sz : Nat} {w w' : World} {A : Option Addr} {xs : List α} (h : Lie ok K sz w A xs)
    (hk : ∀ x cs, x ∈ xs → K x cs → K' x cs) (ho : ∀ b, ok b → ok' b) (hw : ∀ b, ok b → b < w.heap.size → w'.heap[b]? = w.heap[b]?) : Lie ok' K' sz w' A xs := by
  intro h0
  obtain ⟨b, o, rfl, hb, hc⟩ := h h0
  refine ⟨b, o, rfl, ho b hb, fun j x hx => ?_⟩
  obtain ⟨cs, hK, hl, hu⟩ := hc j x hx
  refine ⟨cs, hk x cs (List.mem_of_getElem? hx) hK, hl, fun i u hi => ?_⟩
  have := hu i u hi
  rw [← this]
  exact World.cell?_of_block (hw b hb (cell_lt this))
theorem Lie.below {α : Type} {ok : Nat → Prop} {K : α → List Value → Prop} {sz : Nat} {w w' : World} {A : Option Addr} {xs : List α} (h : Lie ok K sz w A xs) (hb : Below w.heap.size w w') : Lie ok K sz w' A xs :=
  h.mono (fun _ _ _ x => x) (fun _ x => x) (fun b _ hb' => hb.block b hb')
/-- What holds of each element that lies there. -/
theorem Lie.get {α : Type} {ok : Nat → Prop} {K : α → List Value → Prop} {sz : Nat} {w : World} {A : Option Addr} {xs : List α} (h : Lie ok K sz w A xs) {j : Nat} {x : α} (hx : xs[j]? = some x) :
    ∃ b o cs, A = some ⟨b, o, none⟩ ∧ ok b ∧ K x cs ∧ cs.length = sz ∧ ∀ i u, cs[i]? = some u → w.cell? ⟨b, o + (j * sz + i), none⟩ = some u := by
  have h0 : 0 < xs.length := by
    have := (List.getElem?_eq_some_iff.1 hx).1
    omega
  obtain ⟨b, o, rfl, hb, hc⟩ := h h0
  obtain ⟨cs, hK, hl, hu⟩ := hc j x hx
  exact ⟨b, o, cs, rfl, hb, hK, hl, hu⟩
/-- Whatever lies there lies in blocks that there are. -/
theorem Lie.lt {α : Type} {ok : Nat → Prop} {K : α → List Value → Prop} {sz : Nat} {w : World} {A : Option Addr} {xs : List α} (h : Lie ok K sz w A xs) (hsz : 0 < sz) : Lie (fun b => ok b ∧ b < w.heap.size) K sz w A xs := by
  intro h0
  obtain ⟨b, o, rfl, hb, hc⟩ := h h0
  refine ⟨b, o, rfl, ⟨hb, ?_⟩, hc⟩
  obtain ⟨cs, _, hl, hu⟩ := hc 0 _ (List.getElem?_eq_getElem h0)
  exact cell_lt (hu 0 _ (List.getElem?_eq_getElem (by omega)))
def anyB (_ : Nat) : Prop := True
/-- Elements of one cell each. -/
def one {α : Type} (enc : α → Value) (x : α) (cs : List Value) : Prop := cs = [enc x]
/-- Whole numbers. -/
def Ints (ok : Nat → Prop) (k : IntKind) (w : World) (A : Option Addr) (xs : List Int) : Prop := Lie ok (one (Value.int k)) 1 w A xs
theorem Ints.below {ok : Nat → Prop} {k : IntKind} {w w' : World} {A : Option Addr} {xs : List Int} (h : Ints ok k w A xs) (hb : Below w.heap.size w w') : Ints ok k w' A xs := Lie.below h hb
theorem Ints.get {ok : Nat → Prop} {k : IntKind} {w : World} {A : Option Addr} {xs : List Int} (h : Ints ok k w A xs) {j : Nat} (hj : j < xs.length) :
    ∃ b o, A = some ⟨b, o, none⟩ ∧ ok b ∧ w.cell? ⟨b, o + j, none⟩ = some (.int k (xs.getD j 0)) := by
  obtain ⟨b, o, cs, rfl, hb, hK, _, hu⟩ := Lie.get h (List.getElem?_eq_getElem hj)
  obtain rfl := hK
  refine ⟨b, o, rfl, hb, ?_⟩
  have := hu 0 _ rfl
  simpa [List.getD_eq_getElem?_getD, List.getElem?_eq_getElem hj] using this
theorem Ints.mono {ok ok' : Nat → Prop} {k : IntKind} {w : World} {A : Option Addr} {xs : List Int} (h : Ints ok k w A xs) (ho : ∀ b, ok b → ok' b) : Ints ok' k w A xs :=
  Lie.mono h (fun _ _ _ x => x) ho (fun _ _ _ => rfl)
theorem Ints.any {ok : Nat → Prop} {k : IntKind} {w : World} {A : Option Addr} {xs : List Int} (h : Ints ok k w A xs) : Ints anyB k w A xs := h.mono (fun _ _ => trivial)
theorem Lie.any {α : Type} {ok : Nat → Prop} {K : α → List Value → Prop} {sz : Nat} {w : World} {A : Option Addr} {xs : List α} (h : Lie ok K sz w A xs) : Lie anyB K sz w A xs := h.mono (fun _ _ _ x => x) (fun _ _ => trivial) (fun _ _ _ => rfl)
/-- A row of the call's own. -/
theorem Ints.of_own {w : World} {base n : Nat} {e : TypeId} {k : IntKind} {A : Option Addr} {m c : Nat} {xs : List Int} (h : w.ownsRow base e 1 (.slice A m c) n (xs.map (Value.int k))) : Ints (fun b => base ≤ b) k w A xs := by
  intro h0
  have hl : xs.length = n := by have := h.1; simpa using this
  obtain ⟨g, cap, he, hb, _⟩ := h.form (by omega)
  injection he with h1 h2 h3
  subst h1
  refine ⟨g, 0, rfl, hb, fun j x hx => ⟨_, rfl, rfl, fun i u hi => ?_⟩⟩
  have hi0 : i = 0 ∧ u = .int k x := by
    match i, hi with
    | 0, hi => exact ⟨rfl, by simpa using hi.symm⟩
    | i + 1, hi => simp at hi
  obtain ⟨rfl, rfl⟩ := hi0
  have := h.cells (g := g) rfl j (.int k x) (by simp [hx])
  simp only [Addr.add] at this
  split at this
  · next hj => subst hj; simpa using this
  · simpa using this
theorem ints_blk {w : World} {b : Nat} {e : TypeId} {f : Nat × Nat} {k : IntKind} (xs : List Int) (h : w.heap[b]? = some (.cells (xs.map (Value.int k)).toArray e f)) : Ints anyB k w (some ⟨b, 0, none⟩) xs := by
  intro h0
  refine ⟨_, _, rfl, trivial, fun j x hx => ⟨_, rfl, rfl, fun i u hu => ?_⟩⟩
  match i, hu with
  | 0, hu =>
    obtain rfl : Value.int k x = u := by simpa using hu
    rw [blk_cell h]
    simp [hx]
  | i + 1, hu => simp at hu

/-! ## append -/
/-- The cells that are to be appended lie at A (anywhere, if there are none). -/
def Flat (w : World) (A : Option Addr) (news : List Value) : Prop := 0 < news.length → ∃ ad, A = some ad ∧ ∀ j u, news[j]? = some u → w.cell? (ad.add j) = some u
theorem Flat.one (w : World) (x : Value) (t : TypeId) : Flat (w.alloc (.cells #[x] t)) (some ⟨w.heap.size, 0, none⟩) [x] := fun _ => ⟨_, rfl, cell_one_new w x t⟩
theorem Flat.of_ints {ok : Nat → Prop} {k : IntKind} {w : World} {A : Option Addr} {xs : List Int} (h : Ints ok k w A xs) : Flat w A (xs.map (Value.int k)) := by
  intro h0
  obtain ⟨b, o, rfl, _, hc⟩ := h (by simpa using h0)
  refine ⟨_, rfl, fun j u hu => ?_⟩
  simp only [List.getElem?_map, Option.map_eq_some_iff] at hu
  obtain ⟨x, hx, rfl⟩ := hu
  obtain ⟨cs, hK, _, hcell⟩ := hc j x hx
  obtain rfl := hK
  have := hcell 0 _ rfl
  have ha : (⟨b, o, none⟩ : Addr).add j = ⟨b, o + (j * 1 + 0), none⟩ := by unfold Addr.add; split <;> simp_all
  rw [ha]; exact this
theorem own_nil (W : World) (base : Nat) (e : TypeId) (size : Nat) : W.ownsRow base e size (.slice none 0 0) 0 [] := ⟨by simp, .inl ⟨rfl, rfl⟩⟩
theorem own_base {w : World} {base : Nat} {e : TypeId} {size n : Nat} {v : Value} {xs : List Value} (h : w.ownsRow base e size v n xs) (k : Nat) (hk : v.ownBlock = some k) : base ≤ k := by
  rcases h.2 with ⟨rfl, _⟩ | ⟨g, cap, cur, rfl, hb, _⟩
  · simp [Value.ownBlock] at hk
  · have : g = k := by simpa [Value.ownBlock] using hk
    omega
theorem own_lt {w : World} {base : Nat} {e : TypeId} {size n : Nat} {v : Value} {xs : List Value} (h : w.ownsRow base e size v n xs) (k : Nat) (hk : v.ownBlock = some k) : k < w.heap.size := by
  rcases h.2 with ⟨rfl, _⟩ | ⟨g, cap, cur, rfl, hb, hh, _⟩
  · simp [Value.ownBlock] at hk
  · have : g = k := by simpa [Value.ownBlock] using hk
    subst this
    exact blk_lt hh
theorem own_slice {w : World} {base n : Nat} {e : TypeId} {size : Nat} {v : Value} {xs : List Value} (h : w.ownsRow base e size v n xs) : ∃ A c, v = .slice A n c := by
  rcases h.2 with ⟨rfl, rfl⟩ | ⟨g, cap, cur, rfl, _⟩
  · exact ⟨none, 0, rfl⟩
  · exact ⟨_, cap, rfl⟩
theorem own_below {w w1 : World} {base : Nat} {e : TypeId} {size n : Nat} {v : Value} {xs : List Value} (h : w.ownsRow base e size v n xs) (hb : Below w.heap.size w w1) : w1.ownsRow base e size v n xs := by
  rcases h with ⟨hl, h | ⟨g, cap, cur, rfl, hbg, hh, r⟩⟩
  · exact ⟨hl, .inl h⟩
  · exact ⟨hl, .inr ⟨g, cap, cur, rfl, hbg, blk_below hh hb, r⟩⟩
theorem own_ext {F : Nat → Prop} {w w1 : World} {base : Nat} {e : TypeId} {size n : Nat} {v : Value} {xs : List Value} (h : w.ownsRow base e size v n xs) (hb : Ext F w w1) (hF : ∀ k, v.ownBlock = some k → ¬ F k) : w1.ownsRow base e size v n xs := by
  rcases h with ⟨hl, h | ⟨g, cap, cur, rfl, hbg, hh, r⟩⟩
  · exact ⟨hl, .inl h⟩
  · exact ⟨hl, .inr ⟨g, cap, cur, rfl, hbg, blk_ext hh hb (hF g rfl), r⟩⟩
theorem own_weaken {w : World} {base base' : Nat} {e : TypeId} {size n : Nat} {v : Value} {xs : List Value} (h : w.ownsRow base e size v n xs) (hb : base' ≤ base) : w.ownsRow base' e size v n xs := by
  rcases h with ⟨hl, h | ⟨g, cap, cur, rfl, hbg, r⟩⟩
  · exact ⟨hl, .inl h⟩
  · exact ⟨hl, .inr ⟨g, cap, cur, rfl, Nat.le_trans hb hbg, r⟩⟩
/-- The cells of a list that lies there, one behind the other. -/
theorem Lie.flat {α : Type} {ok : Nat → Prop} {K : α → List Value → Prop} {sz : Nat} {w : World} {A : Option Addr} {xs : List α} (h : Lie ok K sz w A xs) (hsz : 0 < sz) (hp : ∀ x c, K x c → ∀ u ∈ c, u.oneCell' = true) : ∃ cs : List Value, cs.length = xs.length * sz ∧ Flat w A cs ∧ (∀ u ∈ cs, u.oneCell' = true) ∧
    (∀ j x, xs[j]? = some x → K x ((cs.drop (j * sz)).take sz)) := by
  rcases Nat.eq_zero_or_pos xs.length with h0 | h0
  · exact ⟨[], by simp [h0], fun h => absurd h (by simp), by simp, fun j x hx => by
      have := (List.getElem?_eq_some_iff.1 hx).1; omega⟩
  · obtain ⟨b, o, rfl, hok, hc⟩ := h h0
    have key : ∀ n, n ≤ xs.length → ∃ cs : List Value, cs.length = n * sz ∧ (∀ j u, cs[j]? = some u → w.cell? ⟨b, o + j, none⟩ = some u) ∧ (∀ u ∈ cs, u.oneCell' = true) ∧ ∀ j x, j < n → xs[j]? = some x → K x ((cs.drop (j * sz)).take sz) := by
      intro n
      induction n with
      | zero => intro _; exact ⟨[], by simp, by simp, by simp, fun j x hj => by omega⟩
      | succ n ih =>
        intro hn
        obtain ⟨cs, hl, hcell, h1, hk⟩ := ih (by omega)
        obtain ⟨c, hK, hcl, hu⟩ := hc n _ (List.getElem?_eq_getElem (show n < xs.length by omega))
        refine ⟨cs ++ c, by rw [List.length_append, hl, hcl, Nat.succ_mul], ?_, ?_, ?_⟩
        · intro j u hj
          rcases Nat.lt_or_ge j cs.length with hlt | hge
          · rw [List.getElem?_append_left hlt] at hj; exact hcell j u hj
          · rw [List.getElem?_append_right hge] at hj
            have := hu (j - cs.length) u hj
            rwa [hl, Nat.add_sub_cancel' (by omega)] at this
        · intro u hu'
          rcases List.mem_append.1 hu' with hu' | hu'
          · exact h1 u hu'
          · exact hp _ _ hK u hu'
        · intro j x hj hx
          rcases Nat.lt_or_ge j n with hlt | hge
          · have h1 : j * sz + sz ≤ cs.length := by rw [hl, ← Nat.succ_mul]; exact Nat.mul_le_mul_right _ hlt
            rw [List.drop_append_of_le_length (by omega), List.take_append_of_le_length (by rw [List.length_drop]; omega)]
            exact hk j x hlt hx
          · obtain rfl : j = n := by omega
            rw [List.getElem?_eq_getElem (by omega)] at hx
            obtain rfl : xs[j] = x := by simpa using hx
            rw [← hl, List.drop_left, ← hcl, List.take_length]
            exact hK
    obtain ⟨cs, hl, hcell, h1, hk⟩ := key xs.length (Nat.le_refl _)
    refine ⟨cs, hl, fun _ => ⟨_, rfl, fun j u hj => ?_⟩, h1, fun j x hx => hk j x (List.getElem?_eq_some_iff.1 hx).1 hx⟩
    have ha : (⟨b, o, none⟩ : Addr).add j = ⟨b, o + j, none⟩ := by unfold Addr.add; split <;> simp_all
    rw [ha]; exact hcell j u hj
/-- A list in a row of the call's own. -/
theorem Lie.of_own {α : Type} {ok : Nat → Prop} {K : α → List Value → Prop} {sz : Nat} {w : World} {A : Option Addr} {xs : List α} {base n m c : Nat} {e : TypeId} {cs : List Value} (h : w.ownsRow base e sz (.slice A m c) n cs) (hsz : 0 < sz) (hl : xs.length = n)
    (hK : ∀ j x, xs[j]? = some x → K x ((cs.drop (j * sz)).take sz)) (hok : ∀ g, base ≤ g → g < w.heap.size → ok g) : Lie ok K sz w A xs := by
  intro h0
  obtain ⟨g, cap, he, hb, hg⟩ := h.form (by omega)
  injection he with h1 h2 h3
  subst h1
  refine ⟨g, 0, rfl, hok g hb hg, fun j x hx => ?_⟩
  have hj : j < xs.length := (List.getElem?_eq_some_iff.1 hx).1
  have hcl := h.1
  have hle : j * sz + sz ≤ cs.length := by rw [hcl, ← hl, ← Nat.succ_mul]; exact Nat.mul_le_mul_right _ hj
  refine ⟨_, hK j x hx, by rw [List.length_take, List.length_drop]; omega, fun i u hi => ?_⟩
  have hi' : i < sz := by
    have := (List.getElem?_eq_some_iff.1 hi).1
    rw [List.length_take] at this; omega
  rw [List.getElem?_take_of_lt hi', List.getElem?_drop] at hi
  have := h.cells (g := g) rfl (j * sz + i) u hi
  have ha : (⟨g, 0, none⟩ : Addr).add (j * sz + i) = ⟨g, 0 + (j * sz + i), none⟩ := by unfold Addr.add; split <;> simp_all
  rwa [ha] at this
theorem own_blk {w : World} {base b : Nat} {e : TypeId} {sz n : Nat} {cs : Array Value} (h : w.heap[b]? = some (.cells cs e (0, 0))) (hb : base ≤ b) (hn : cs.size = n * sz) (hm : n ≤ maxLen) : w.ownsRow base e sz (.slice (some ⟨b, 0, none⟩) n n) n cs.toList :=
  ⟨by simpa using hn, .inr ⟨b, n, cs, rfl, hb, h, Nat.le_refl _, hm, hn, by rw [List.take_of_length_le (by simp [hn])]⟩⟩
theorem own_type_ne {w : World} {base n size : Nat} {e t : TypeId} {v : Value} {xs : List Value} {g : Nat} {cs : Array Value} {f : Nat × Nat} (h : w.ownsRow base e size v n xs) (hg : w.heap[g]? = some (.cells cs t f)) (hne : e ≠ t) : some g ≠ v.ownBlock := by
  rcases h.2 with ⟨rfl, _⟩ | ⟨g', cap, cur, rfl, _, hh, _⟩
  · simp [Value.ownBlock]
  · intro he
    have : g = g' := by simpa [Value.ownBlock] using he
    subst this
    rw [hh] at hg
    cases hg
    exact hne rfl
/-- A block of another type stays, where a row is appended to. -/
theorem blk_app {w w' : World} {base n size : Nat} {e t : TypeId} {v : Value} {xs : List Value} {g : Nat} {cs : Array Value} {f : Nat × Nat} (hg : w.heap[g]? = some (.cells cs t f)) (h : w.ownsRow base e size v n xs) (hne : e ≠ t) (hw : w.grownBy w' v.ownBlock) : w'.heap[g]? = some (.cells cs t f) :=
  (hw.block g (blk_lt hg) (own_type_ne h hg hne)).trans hg
section
variable {P : Program} {ops : Array Oper} {rest : List Oper} {o : Oper} {a : Act} {Q : Exit → Act → World → Prop}
theorem run_app (w : World) (base : Nat) (t ty e : TypeId) (z : Value) (size bytes : Nat) (ht : P.underlying t = some (.slice e))
    (hinfo : (P.info? e).map (fun i => (i.zero, i.size, i.bytes)) = some (some z, size, bytes)) (hzs : z.cells.size = size) (hsz : 0 < size)
    (v : Value) (n : Nat) (xs : List Value) (HO : w.ownsRow base e size v n xs)
    (A : Option Addr) (m c : Nat) (news : List Value) (hl : news.length = m * size) (hn : Flat w A news) (h1 : ∀ u ∈ news, u.oneCell' = true) (hb : (n + m) * bytes ≤ 140737488355328) (hm : n + m ≤ 140737488355328) (hbase : base ≤ w.heap.size) :
    ∃ v1 w1, (Builtin.append_ #[t, t] ty #[v, .slice A m c]).run P w = .ok v1 w1 ∧ w1.ownsRow base e size v1 (n + m) (xs ++ news) ∧ w.grownBy w1 v.ownBlock ∧ (v1.ownBlock = v.ownBlock ∨ v1.ownBlock = some w.heap.size) := by
  obtain ⟨i0, hi, hzz⟩ := Option.map_eq_some_iff.1 hinfo
  simp only [Prod.mk.injEq] at hzz
  obtain ⟨hz0, hz1, hz2⟩ := hzz
  rcases A with _ | ad
  · have h0 : m = 0 := by
      rcases Nat.eq_zero_or_pos m with h0 | h0
      · exact h0
      · obtain ⟨ad, h, _⟩ := hn (by rw [hl]; exact Nat.mul_pos h0 hsz)
        cases h
    subst h0
    obtain rfl : news = [] := List.eq_nil_of_length_eq_zero (by simpa using hl)
    refine ⟨v, w, ?_, by simpa using HO, World.grownBy.refl w _, .inl rfl⟩
    rcases HO.2 with ⟨rfl, hn⟩ | ⟨g, cap, cur, rfl, _, _, hnc, _⟩
    · simp [Builtin.append_, run_underlying ht, sizeOf, typeInfo, hi, Builtin.lenOf, Builtin.firstCells]
    · simp [Builtin.append_, run_underlying ht, sizeOf, typeInfo, hi, Builtin.lenOf, Builtin.firstCells, hnc, storeCells]
  · have hcells : ∀ j u, news[j]? = some u → w.cell? (ad.add j) = some u := by
      intro j u hu
      obtain ⟨ad', h', hc⟩ := hn (by have := (List.getElem?_eq_some_iff.1 hu).1; omega)
      injection h' with h'
      subst h'
      exact hc j u hu
    obtain ⟨v1, w1, hr, h2, h3, _, h5⟩ := run_append_own_at (P := P) w base t ty e i0 z size bytes ht hi hz0 hz1 hz2 hzs hsz v n xs HO ad m c news hl hcells h1 (by simp only [maxLen]; omega) hb hbase
    exact ⟨v1, w1, hr, h2, h3, h5⟩
/-- The same at a step of a region that draws its order. -/
theorem step_app {w : World} {K : Act → World → Prop} {E : Prop} (base : Nat) (hgd : o.guard = none) (s x : Operand) (t e : TypeId) (z : Value) (size bytes : Nat)
    (ho : o.op = .call { callee := .builtin .append, args := #[s, x], argTypes := #[t, t] })
    (ht : P.underlying t = some (.slice e)) (hinfo : (P.info? e).map (fun i => (i.zero, i.size, i.bytes)) = some (some z, size, bytes)) (hzs : z.cells.size = size) (hsz : 0 < size)
    (v : Value) (n : Nat) (xs : List Value) (hs : a.eval s = v) (HO : w.ownsRow base e size v n xs)
    (A : Option Addr) (m c : Nat) (news : List Value) (hx : a.eval x = .slice A m c) (hl : news.length = m * size) (hn : Flat w A news) (h1 : ∀ u ∈ news, u.oneCell' = true) (hb : (n + m) * bytes ≤ 140737488355328) (hm : n + m ≤ 140737488355328) (hbase : base ≤ w.heap.size)
    (h : ∀ A' c' w', w'.ownsRow base e size (.slice A' (n + m) c') (n + m) (xs ++ news) → w.grownBy w' v.ownBlock → ((Value.slice A' (n + m) c').ownBlock = v.ownBlock ∨ (Value.slice A' (n + m) c').ownBlock = some w.heap.size) → K (a.put o.dst (.slice A' (n + m) c')) w') :
    if Region.wanted o (yielded ops a.tmps) = true then Oper.wp P o a w K Q else E := by
  have hw : Region.wanted o (yielded ops a.tmps) = true := by simp [Region.wanted, hgd]
  rw [if_pos hw]
  obtain ⟨v', w', hr, h2, h3, h5⟩ := run_app (P := P) w base t o.type e z size bytes ht hinfo hzs hsz v n xs HO A m c news hl hn h1 hb hm hbase
  unfold Oper.wp execOp
  simp only [ho, resolve, invoke, builtin, Sem.run_bind, Sem.run_pure, Result.andThen_ok, List.map_toArray, List.map_cons, List.map_nil, hs, hx, hr]
  obtain ⟨A', c', rfl⟩ := own_slice h2
  exact h A' c' w' h2 h3 h5
/-- 'append(v, xs...)' and 'append(v, x)': v of the call's own. -/
theorem wpList_app {w : World} (base : Nat) (hgd : o.guard = none) (s x : Operand) (t e : TypeId) (z : Value) (size bytes : Nat)
    (ho : o.op = .call { callee := .builtin .append, args := #[s, x], argTypes := #[t, t] })
    (ht : P.underlying t = some (.slice e)) (hinfo : (P.info? e).map (fun i => (i.zero, i.size, i.bytes)) = some (some z, size, bytes)) (hzs : z.cells.size = size) (hsz : 0 < size)
    (v : Value) (n : Nat) (xs : List Value) (hs : a.eval s = v) (HO : w.ownsRow base e size v n xs)
    (A : Option Addr) (m c : Nat) (news : List Value) (hx : a.eval x = .slice A m c) (hl : news.length = m * size) (hn : Flat w A news) (h1 : ∀ u ∈ news, u.oneCell' = true) (hb : (n + m) * bytes ≤ 140737488355328) (hm : n + m ≤ 140737488355328) (hbase : base ≤ w.heap.size)
    (h : ∀ A' c' w', w'.ownsRow base e size (.slice A' (n + m) c') (n + m) (xs ++ news) → w.grownBy w' v.ownBlock → ((Value.slice A' (n + m) c').ownBlock = v.ownBlock ∨ (Value.slice A' (n + m) c').ownBlock = some w.heap.size) → wpList P ops Q rest (a.put o.dst (.slice A' (n + m) c')) w') :
    wpList P ops Q (o :: rest) a w := by
  refine wpList_plain hgd fun K hK => ?_
  obtain ⟨v', w', hr, h2, h3, h5⟩ := run_app (P := P) w base t o.type e z size bytes ht hinfo hzs hsz v n xs HO A m c news hl hn h1 hb hm hbase
  unfold Oper.wp execOp
  simp only [ho, resolve, invoke, builtin, Sem.run_bind, Sem.run_pure, Result.andThen_ok, List.map_toArray, List.map_cons, List.map_nil, hs, hx, hr]
  obtain ⟨A', c', rfl⟩ := own_slice h2
  exact hK _ _ (h A' c' w' h2 h3 h5)
end
end Go.Proofs.Ytnppimhlfcjghaa
