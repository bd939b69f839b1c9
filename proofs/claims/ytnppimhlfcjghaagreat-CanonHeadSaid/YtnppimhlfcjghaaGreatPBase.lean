import Derived.WalkKit
import Derived.Below
import Derived.Deep.Draws
import Derived.Maps.RangeRun
import Derived.Maps.AppendAt
import Derived.Deep.AppendLies
import Derived.Laws.MakeOwn
import Derived.Laws.OwnMore
import Derived.MapKept
import Derived.Lib.Hide
import Derived.Deep.MidRow
import Derived.Laws.NewBlocks
set_option linter.all false
set_option linter.unusedVariables false
set_option linter.unusedSimpArgs false
namespace Go.Proofs.YtnppimhlfcjghaaGreat
open Go.RowKit
structure Ext (F : Nat → Prop) (w w' : World) : Prop where
 os : w'.os = w.os
 tape : w'.tape = w.tape
 output : w'.output = w.output
 size : w.heap.size ≤ w'.heap.size
 block : ∀ k, k < w.heap.size → ¬ F k → w'.heap[k]? = w.heap[k]?
theorem Ext.refl (F : Nat → Prop) (w : World) : Ext F w w := ⟨rfl, rfl, rfl, Nat.le_refl _, fun _ _ _ => rfl⟩
theorem Ext.trans {F G : Nat → Prop} {a b c : World} (h : Ext F a b) (k : Ext G b c) (hg : ∀ i, i < a.heap.size → G i → F i) : Ext F a c :=
 ⟨k.os.trans h.os, k.tape.trans h.tape, k.output.trans h.output, Nat.le_trans h.size k.size, fun i hi hf =>
  (k.block i (Nat.lt_of_lt_of_le hi h.size) (fun hgi => hf (hg i hi hgi))).trans (h.block i hi hf)⟩
theorem Ext.mono {F G : Nat → Prop} {a b : World} (h : Ext F a b) (hg : ∀ i, i < a.heap.size → F i → G i) : Ext G a b :=
 ⟨h.os, h.tape, h.output, h.size, fun i hi hf => h.block i hi (fun x => hf (hg i hi x))⟩
theorem Ext.of_below {F : Nat → Prop} {w w' : World} (h : Below w.heap.size w w') : Ext F w w' :=
 ⟨h.os, h.tape, h.output, h.size, fun i hi _ => h.block i hi⟩
theorem Ext.of_lt {B : Nat} {w w' : World} (h : Below B w w') : Ext (fun b => ¬ b < B) w w' := ⟨h.os, h.tape, h.output, h.size, fun i _ hf => h.block i (Decidable.of_not_not hf)⟩
theorem Ext.below {w w' : World} {F : Nat → Prop} (h : Ext F w w') {B : Nat} (hB : B ≤ w.heap.size) (hF : ∀ i, i < B → ¬ F i) : Below B w w' :=
 ⟨h.os, h.tape, h.output, h.size, fun i hi => h.block i (Nat.lt_of_lt_of_le hi hB) (hF i hi)⟩
theorem Ext.drew {F : Nat → Prop} {a w : World} (h : Ext F a w) : Ext F a w.drew := ⟨h.os, h.tape, h.output, h.size, h.block⟩
theorem Ext.drewN {F : Nat → Prop} {a w : World} (h : Ext F a w) (n : Nat) : Ext F a (w.drewN n) := ⟨h.os, h.tape, h.output, h.size, h.block⟩
theorem Ext.alloc {F : Nat → Prop} {a w : World} (h : Ext F a w) (o : Obj) : Ext F a (w.alloc o) :=
 h.trans (Ext.of_below (F := fun _ => False) ((Below.refl _ _).alloc (Nat.le_refl _) o)) (fun _ _ x => x.elim)
theorem Ext.setCell {F : Nat → Prop} {a w : World} (h : Ext F a w) {p : Addr} (hp : F p.block ∨ a.heap.size ≤ p.block) (u : Value) : Ext F a (w.setCell p u) :=
 h.trans (G := fun i => i = p.block) ⟨rfl, rfl, rfl, by simp [World.setCell], fun k _ hk => Below.heap_setCell _ _ _ _ hk⟩
  (fun i hi hg => by subst hg; rcases hp with hp | hp; exact hp; omega)
theorem Ext.grown {F : Nat → Prop} {a w w' : World} {row : Option Nat} (h : Ext F a w) (hg : w.grownBy w' row) (hr : ∀ k, row = some k → F k ∨ a.heap.size ≤ k) : Ext F a w' :=
 h.trans (G := fun i => some i = row) ⟨hg.os, hg.tape, hg.output, hg.size, fun k hk hne => hg.block k hk hne⟩
  (fun i hi hgi => by rcases hr i hgi.symm with x | x; exact x; omega)
theorem Ext.thenBelow {F : Nat → Prop} {a b c : World} (h : Ext F a b) (k : Below b.heap.size b c) : Ext F a c :=
 h.trans (Ext.of_below (F := fun _ => False) k) (fun _ _ x => x.elim)
theorem below_then {a b c : World} {B : Nat} (h : Below B a b) (hB : B ≤ b.heap.size) (k : Below b.heap.size b c) : Below B a c := h.trans (k.mono hB)
theorem below_trans {a b c : World} (h : Below a.heap.size a b) (k : Below b.heap.size b c) : Below a.heap.size a c := h.trans (k.mono h.size)
theorem below_alloc {w W : World} (h : Below w.heap.size w W) (o : Obj) : Below w.heap.size w (W.alloc o) := h.alloc h.size o
theorem below_alloc' {B : Nat} {w W : World} (h : Below B w W) (hB : B ≤ w.heap.size) (o : Obj) : Below B w (W.alloc o) := h.alloc (Nat.le_trans hB h.size) o
theorem undrew {w w' : World} (h : Below w.drew.heap.size w.drew w') : Below w.heap.size w w' := ⟨h.os, h.tape, h.output, h.size, h.block⟩
theorem below_drewN {B : Nat} {w W : World} (h : Below B w W) (n : Nat) : Below B w (W.drewN n) := ⟨h.os, h.tape, h.output, h.size, h.block⟩
theorem size_hid (w : World) : ∃ B, Hid (w.heap.size = B) ∧ w.heap.size ≤ B ∧ B ≤ w.heap.size := ⟨w.heap.size, rfl, Nat.le_refl _, Nat.le_refl _⟩
theorem heap_new (w : World) (o : Obj) : (w.alloc o).heap[w.heap.size]? = some o := heap_alloc_new w o
theorem heap_new1 (w : World) (o1 o2 : Obj) : ((w.alloc o1).alloc o2).heap[w.heap.size + 1]? = some o2 := by simpa using heap_alloc_new (w.alloc o1) o2
theorem heap_new2 (w : World) (o1 o2 o3 : Obj) : (((w.alloc o1).alloc o2).alloc o3).heap[w.heap.size + 2]? = some o3 := by simpa using heap_alloc_new ((w.alloc o1).alloc o2) o3
theorem ret_bool {a b : Bool} (h : a = b) : Ending.returned (.bool a) = Ending.returned (.bool b) := by rw [h]
theorem ret_int {k : IntKind} {a b : Int} (h : a = b) : Ending.returned (.int k a) = Ending.returned (.int k b) := by rw [h]
theorem blk_lt {w : World} {g : Nat} {o : Obj} (h : w.heap[g]? = some o) : g < w.heap.size := (Array.getElem?_eq_some_iff.1 h).1
theorem blk_below {w w1 : World} {g : Nat} {o : Obj} (h : w.heap[g]? = some o) (hb : Below w.heap.size w w1) : w1.heap[g]? = some o := (hb.block g (blk_lt h)).trans h
theorem blk_ext {w w1 : World} {F : Nat → Prop} {g : Nat} {o : Obj} (h : w.heap[g]? = some o) (hb : Ext F w w1) (hg : ¬ F g) : w1.heap[g]? = some o := (hb.block g (blk_lt h) hg).trans h
theorem blk_cell {w : World} {g : Nat} {t : TypeId} {cs : Array Value} {f : Nat × Nat} (h : w.heap[g]? = some (.cells cs t f)) (i : Nat) : w.cell? ⟨g, i, none⟩ = cs[i]? := by simp [World.cell?, h]
theorem blk_frozen {w : World} {g : Nat} {t : TypeId} {cs : Array Value} (h : w.heap[g]? = some (.cells cs t (0, 0))) (i : Nat) : w.frozen? ⟨g, i, none⟩ = false := by simp [World.frozen?, h]
theorem cell_lt {w : World} {p : Addr} {v : Value} (h : w.cell? p = some v) : p.block < w.heap.size := World.block_lt_of_cell? w p h
theorem cell_below {w w1 : World} {p : Addr} {v : Value} (h : w.cell? p = some v) (hb : Below w.heap.size w w1) : w1.cell? p = some v := (hb.cell (cell_lt h)).trans h
theorem cell_ext {w w1 : World} {F : Nat → Prop} {p : Addr} {v : Value} (h : w.cell? p = some v) (hb : Ext F w w1) (hg : ¬ F p.block) : w1.cell? p = some v :=
 (World.cell?_of_block (hb.block p.block (cell_lt h) hg)).trans h
theorem blk_set {w : World} {g : Nat} {t : TypeId} {cs : Array Value} {f : Nat × Nat} (h : w.heap[g]? = some (.cells cs t f)) (i : Nat) (u : Value) : (w.setCell ⟨g, i, none⟩ u).heap[g]? = some (.cells (cs.setIfInBounds i u) t f) := by
 simp [World.setCell, Array.getElem?_modify, h]
theorem blk_far {w : World} {g : Nat} {o : Obj} (h : w.heap[g]? = some o) {p : Addr} (hp : g ≠ p.block) (u : Value) : (w.setCell p u).heap[g]? = some o := (Below.heap_setCell _ _ _ _ hp).trans h
def Lie {α : Type} (ok : Nat → Prop) (K : α → List Value → Prop) (sz : Nat) (w : World) (A : Option Addr) (xs : List α) : Prop :=
 0 < xs.length → ∃ b o, A = some ⟨b, o, none⟩ ∧ ok b ∧ ∀ j x, xs[j]? = some x → ∃ cs, K x cs ∧ cs.length = sz ∧ ∀ i u, cs[i]? = some u → w.cell? ⟨b, o + (j * sz + i), none⟩ = some u
theorem Lie.nil {α : Type} {ok : Nat → Prop} {K : α → List Value → Prop} {sz : Nat} {w : World} {A : Option Addr} : Lie ok K sz w A [] := fun h => absurd h (by simp)
theorem Lie.mono {α : Type} {ok ok' : Nat → Prop} {K K' : α → List Value → Prop} {sz : Nat} {w w' : World} {A : Option Addr} {xs : List α} (h : Lie ok K sz w A xs)
    (hk : ∀ x cs, x ∈ xs → K x cs → K' x cs) (ho : ∀ b, ok b → ok' b) (hw : ∀ b, ok b → b < w.heap.size → w'.heap[b]? = w.heap[b]?) : Lie ok' K' sz w' A xs := by
 intro h0
 obtain ⟨b, o, rfl, hb, hc⟩ := h h0
 refine ⟨b, o, rfl, ho b hb, fun j x hx => ?_⟩
 obtain ⟨cs, hK, hl, hu⟩ := hc j x hx
 refine ⟨cs, hk x cs (List.mem_of_getElem? hx) hK, hl, fun i u hi => ?_⟩
 have := hu i u hi
 rw [← this]
 exact World.cell?_of_block (hw b hb (cell_lt this))
theorem Lie.below {α : Type} {ok : Nat → Prop} {K : α → List Value → Prop} {sz : Nat} {w w' : World} {A : Option Addr} {xs : List α} (h : Lie ok K sz w A xs) (hb : Below w.heap.size w w') : Lie ok K sz w' A xs :=
 h.mono (fun _ _ _ x => x) (fun _ x => x) (fun b _ hb' => hb.block b hb')
theorem Lie.get {α : Type} {ok : Nat → Prop} {K : α → List Value → Prop} {sz : Nat} {w : World} {A : Option Addr} {xs : List α} (h : Lie ok K sz w A xs) {j : Nat} {x : α} (hx : xs[j]? = some x) :
    ∃ b o cs, A = some ⟨b, o, none⟩ ∧ ok b ∧ K x cs ∧ cs.length = sz ∧ ∀ i u, cs[i]? = some u → w.cell? ⟨b, o + (j * sz + i), none⟩ = some u := by
 have h0 : 0 < xs.length := by
  have := (List.getElem?_eq_some_iff.1 hx).1
  omega
 obtain ⟨b, o, rfl, hb, hc⟩ := h h0
 obtain ⟨cs, hK, hl, hu⟩ := hc j x hx
 exact ⟨b, o, cs, rfl, hb, hK, hl, hu⟩
theorem Lie.lt {α : Type} {ok : Nat → Prop} {K : α → List Value → Prop} {sz : Nat} {w : World} {A : Option Addr} {xs : List α} (h : Lie ok K sz w A xs) (hsz : 0 < sz) : Lie (fun b => ok b ∧ b < w.heap.size) K sz w A xs := by
 intro h0
 obtain ⟨b, o, rfl, hb, hc⟩ := h h0
 refine ⟨b, o, rfl, ⟨hb, ?_⟩, hc⟩
 obtain ⟨cs, _, hl, hu⟩ := hc 0 _ (List.getElem?_eq_getElem h0)
 exact cell_lt (hu 0 _ (List.getElem?_eq_getElem (by omega)))
def anyB (_ : Nat) : Prop := True
def one {α : Type} (enc : α → Value) (x : α) (cs : List Value) : Prop := cs = [enc x]
def Ints (ok : Nat → Prop) (k : IntKind) (w : World) (A : Option Addr) (xs : List Int) : Prop := Lie ok (one (Value.int k)) 1 w A xs
theorem Ints.below {ok : Nat → Prop} {k : IntKind} {w w' : World} {A : Option Addr} {xs : List Int} (h : Ints ok k w A xs) (hb : Below w.heap.size w w') : Ints ok k w' A xs := Lie.below h hb
theorem Ints.get {ok : Nat → Prop} {k : IntKind} {w : World} {A : Option Addr} {xs : List Int} (h : Ints ok k w A xs) {j : Nat} (hj : j < xs.length) :
    ∃ b o, A = some ⟨b, o, none⟩ ∧ ok b ∧ w.cell? ⟨b, o + j, none⟩ = some (.int k (xs.getD j 0)) := by
 obtain ⟨b, o, cs, rfl, hb, hK, _, hu⟩ := Lie.get h (List.getElem?_eq_getElem hj)
 obtain rfl := hK
 refine ⟨b, o, rfl, hb, ?_⟩
 have := hu 0 _ rfl
 simpa [List.getD_eq_getElem?_getD, List.getElem?_eq_getElem hj] using this
theorem Ints.mono {ok ok' : Nat → Prop} {k : IntKind} {w : World} {A : Option Addr} {xs : List Int} (h : Ints ok k w A xs) (ho : ∀ b, ok b → ok' b) : Ints ok' k w A xs :=
 Lie.mono h (fun _ _ _ x => x) ho (fun _ _ _ => rfl)
theorem Ints.any {ok : Nat → Prop} {k : IntKind} {w : World} {A : Option Addr} {xs : List Int} (h : Ints ok k w A xs) : Ints anyB k w A xs := h.mono (fun _ _ => trivial)
theorem Lie.any {α : Type} {ok : Nat → Prop} {K : α → List Value → Prop} {sz : Nat} {w : World} {A : Option Addr} {xs : List α} (h : Lie ok K sz w A xs) : Lie anyB K sz w A xs := h.mono (fun _ _ _ x => x) (fun _ _ => trivial) (fun _ _ _ => rfl)
theorem Ints.of_own {w : World} {base n : Nat} {e : TypeId} {k : IntKind} {A : Option Addr} {m c : Nat} {xs : List Int} (h : w.ownsRow base e 1 (.slice A m c) n (xs.map (Value.int k))) : Ints (fun b => base ≤ b) k w A xs := by
 intro h0
 have hl : xs.length = n := by have := h.1; simpa using this
 obtain ⟨g, cap, he, hb, _⟩ := h.form (by omega)
 injection he with h1 h2 h3
 subst h1
 refine ⟨g, 0, rfl, hb, fun j x hx => ⟨_, rfl, rfl, fun i u hi => ?_⟩⟩
 have hi0 : i = 0 ∧ u = .int k x := by
  match i, hi with
  | 0, hi => exact ⟨rfl, by simpa using hi.symm⟩
  | i + 1, hi => simp at hi
 obtain ⟨rfl, rfl⟩ := hi0
 have := h.cells (g := g) rfl j (.int k x) (by simp [hx])
 simp only [Addr.add] at this
 split at this
 ·next hj => subst hj; simpa using this
 ·simpa using this
theorem ints_blk {w : World} {b : Nat} {e : TypeId} {f : Nat × Nat} {k : IntKind} (xs : List Int) (h : w.heap[b]? = some (.cells (xs.map (Value.int k)).toArray e f)) : Ints anyB k w (some ⟨b, 0, none⟩) xs := by
 intro h0
 refine ⟨_, _, rfl, trivial, fun j x hx => ⟨_, rfl, rfl, fun i u hu => ?_⟩⟩
 match i, hu with
 | 0, hu =>
  obtain rfl : Value.int k x = u := by simpa using hu
  rw [blk_cell h]
  simp [hx]
 | i + 1, hu => simp at hu
def Flat (w : World) (A : Option Addr) (news : List Value) : Prop := 0 < news.length → ∃ ad, A = some ad ∧ ∀ j u, news[j]? = some u → w.cell? (ad.add j) = some u
theorem Flat.one (w : World) (x : Value) (t : TypeId) : Flat (w.alloc (.cells #[x] t)) (some ⟨w.heap.size, 0, none⟩) [x] := fun _ => ⟨_, rfl, cell_one_new w x t⟩
theorem Flat.of_ints {ok : Nat → Prop} {k : IntKind} {w : World} {A : Option Addr} {xs : List Int} (h : Ints ok k w A xs) : Flat w A (xs.map (Value.int k)) := by
 intro h0
 obtain ⟨b, o, rfl, _, hc⟩ := h (by simpa using h0)
 refine ⟨_, rfl, fun j u hu => ?_⟩
 simp only [List.getElem?_map, Option.map_eq_some_iff] at hu
 obtain ⟨x, hx, rfl⟩ := hu
 obtain ⟨cs, hK, _, hcell⟩ := hc j x hx
 obtain rfl := hK
 have := hcell 0 _ rfl
 have ha : (⟨b, o, none⟩ : Addr).add j = ⟨b, o + (j * 1 + 0), none⟩ := by unfold Addr.add; split <;> simp_all
 rw [ha]; exact this
theorem own_nil (W : World) (base : Nat) (e : TypeId) (size : Nat) : W.ownsRow base e size (.slice none 0 0) 0 [] := ⟨by simp, .inl ⟨rfl, rfl⟩⟩
theorem own_base {w : World} {base : Nat} {e : TypeId} {size n : Nat} {v : Value} {xs : List Value} (h : w.ownsRow base e size v n xs) (k : Nat) (hk : v.ownBlock = some k) : base ≤ k := by
 rcases h.2 with ⟨rfl, _⟩ | ⟨g, cap, cur, rfl, hb, _⟩
 ·simp [Value.ownBlock] at hk
 ·have : g = k := by simpa [Value.ownBlock] using hk
  omega
theorem own_lt {w : World} {base : Nat} {e : TypeId} {size n : Nat} {v : Value} {xs : List Value} (h : w.ownsRow base e size v n xs) (k : Nat) (hk : v.ownBlock = some k) : k < w.heap.size := by
 rcases h.2 with ⟨rfl, _⟩ | ⟨g, cap, cur, rfl, hb, hh, _⟩
 ·simp [Value.ownBlock] at hk
 ·have : g = k := by simpa [Value.ownBlock] using hk
  subst this
  exact blk_lt hh
theorem own_slice {w : World} {base n : Nat} {e : TypeId} {size : Nat} {v : Value} {xs : List Value} (h : w.ownsRow base e size v n xs) : ∃ A c, v = .slice A n c := by
 rcases h.2 with ⟨rfl, rfl⟩ | ⟨g, cap, cur, rfl, _⟩
 ·exact ⟨none, 0, rfl⟩
 ·exact ⟨_, cap, rfl⟩
theorem own_below {w w1 : World} {base : Nat} {e : TypeId} {size n : Nat} {v : Value} {xs : List Value} (h : w.ownsRow base e size v n xs) (hb : Below w.heap.size w w1) : w1.ownsRow base e size v n xs := by
 rcases h with ⟨hl, h | ⟨g, cap, cur, rfl, hbg, hh, r⟩⟩
 ·exact ⟨hl, .inl h⟩
 ·exact ⟨hl, .inr ⟨g, cap, cur, rfl, hbg, blk_below hh hb, r⟩⟩
theorem own_ext {F : Nat → Prop} {w w1 : World} {base : Nat} {e : TypeId} {size n : Nat} {v : Value} {xs : List Value} (h : w.ownsRow base e size v n xs) (hb : Ext F w w1) (hF : ∀ k, v.ownBlock = some k → ¬ F k) : w1.ownsRow base e size v n xs := by
 rcases h with ⟨hl, h | ⟨g, cap, cur, rfl, hbg, hh, r⟩⟩
 ·exact ⟨hl, .inl h⟩
 ·exact ⟨hl, .inr ⟨g, cap, cur, rfl, hbg, blk_ext hh hb (hF g rfl), r⟩⟩
theorem own_weaken {w : World} {base base' : Nat} {e : TypeId} {size n : Nat} {v : Value} {xs : List Value} (h : w.ownsRow base e size v n xs) (hb : base' ≤ base) : w.ownsRow base' e size v n xs := by
 rcases h with ⟨hl, h | ⟨g, cap, cur, rfl, hbg, r⟩⟩
 ·exact ⟨hl, .inl h⟩
 ·exact ⟨hl, .inr ⟨g, cap, cur, rfl, Nat.le_trans hb hbg, r⟩⟩
theorem Lie.flat {α : Type} {ok : Nat → Prop} {K : α → List Value → Prop} {sz : Nat} {w : World} {A : Option Addr} {xs : List α} (h : Lie ok K sz w A xs) (hsz : 0 < sz) (hp : ∀ x c, K x c → ∀ u ∈ c, u.oneCell' = true) : ∃ cs : List Value, cs.length = xs.length * sz ∧ Flat w A cs ∧ (∀ u ∈ cs, u.oneCell' = true) ∧
    (∀ j x, xs[j]? = some x → K x ((cs.drop (j * sz)).take sz)) := by
 rcases Nat.eq_zero_or_pos xs.length with h0 | h0
 ·exact ⟨[], by simp [h0], fun h => absurd h (by simp), by simp, fun j x hx => by
     have := (List.getElem?_eq_some_iff.1 hx).1; omega⟩
 ·obtain ⟨b, o, rfl, hok, hc⟩ := h h0
  have key : ∀ n, n ≤ xs.length → ∃ cs : List Value, cs.length = n * sz ∧ (∀ j u, cs[j]? = some u → w.cell? ⟨b, o + j, none⟩ = some u) ∧ (∀ u ∈ cs, u.oneCell' = true) ∧ ∀ j x, j < n → xs[j]? = some x → K x ((cs.drop (j * sz)).take sz) := by
   intro n
   induction n with
   | zero => intro _; exact ⟨[], by simp, by simp, by simp, fun j x hj => by omega⟩
   | succ n ih =>
    intro hn
    obtain ⟨cs, hl, hcell, h1, hk⟩ := ih (by omega)
    obtain ⟨c, hK, hcl, hu⟩ := hc n _ (List.getElem?_eq_getElem (show n < xs.length by omega))
    refine ⟨cs ++ c, by rw [List.length_append, hl, hcl, Nat.succ_mul], ?_, ?_, ?_⟩
    ·intro j u hj
     rcases Nat.lt_or_ge j cs.length with hlt | hge
     ·rw [List.getElem?_append_left hlt] at hj; exact hcell j u hj
     ·rw [List.getElem?_append_right hge] at hj
      have := hu (j - cs.length) u hj
      rwa [hl, Nat.add_sub_cancel' (by omega)] at this
    ·intro u hu'
     rcases List.mem_append.1 hu' with hu' | hu'
     ·exact h1 u hu'
     ·exact hp _ _ hK u hu'
    ·intro j x hj hx
     rcases Nat.lt_or_ge j n with hlt | hge
     ·have h1 : j * sz + sz ≤ cs.length := by rw [hl, ← Nat.succ_mul]; exact Nat.mul_le_mul_right _ hlt
      rw [List.drop_append_of_le_length (by omega), List.take_append_of_le_length (by rw [List.length_drop]; omega)]
      exact hk j x hlt hx
     ·obtain rfl : j = n := by omega
      rw [List.getElem?_eq_getElem (by omega)] at hx
      obtain rfl : xs[j] = x := by simpa using hx
      rw [← hl, List.drop_left, ← hcl, List.take_length]
      exact hK
  obtain ⟨cs, hl, hcell, h1, hk⟩ := key xs.length (Nat.le_refl _)
  refine ⟨cs, hl, fun _ => ⟨_, rfl, fun j u hj => ?_⟩, h1, fun j x hx => hk j x (List.getElem?_eq_some_iff.1 hx).1 hx⟩
  have ha : (⟨b, o, none⟩ : Addr).add j = ⟨b, o + j, none⟩ := by unfold Addr.add; split <;> simp_all
  rw [ha]; exact hcell j u hj
theorem Lie.of_own {α : Type} {ok : Nat → Prop} {K : α → List Value → Prop} {sz : Nat} {w : World} {A : Option Addr} {xs : List α} {base n m c : Nat} {e : TypeId} {cs : List Value} (h : w.ownsRow base e sz (.slice A m c) n cs) (hsz : 0 < sz) (hl : xs.length = n)
    (hK : ∀ j x, xs[j]? = some x → K x ((cs.drop (j * sz)).take sz)) (hok : ∀ g, base ≤ g → g < w.heap.size → ok g) : Lie ok K sz w A xs := by
 intro h0
 obtain ⟨g, cap, he, hb, hg⟩ := h.form (by omega)
 injection he with h1 h2 h3
 subst h1
 refine ⟨g, 0, rfl, hok g hb hg, fun j x hx => ?_⟩
 have hj : j < xs.length := (List.getElem?_eq_some_iff.1 hx).1
 have hcl := h.1
 have hle : j * sz + sz ≤ cs.length := by rw [hcl, ← hl, ← Nat.succ_mul]; exact Nat.mul_le_mul_right _ hj
 refine ⟨_, hK j x hx, by rw [List.length_take, List.length_drop]; omega, fun i u hi => ?_⟩
 have hi' : i < sz := by
  have := (List.getElem?_eq_some_iff.1 hi).1
  rw [List.length_take] at this; omega
 rw [List.getElem?_take_of_lt hi', List.getElem?_drop] at hi
 have := h.cells (g := g) rfl (j * sz + i) u hi
 have ha : (⟨g, 0, none⟩ : Addr).add (j * sz + i) = ⟨g, 0 + (j * sz + i), none⟩ := by unfold Addr.add; split <;> simp_all
 rwa [ha] at this
theorem own_blk {w : World} {base b : Nat} {e : TypeId} {sz n : Nat} {cs : Array Value} (h : w.heap[b]? = some (.cells cs e (0, 0))) (hb : base ≤ b) (hn : cs.size = n * sz) (hm : n ≤ maxLen) : w.ownsRow base e sz (.slice (some ⟨b, 0, none⟩) n n) n cs.toList :=
 ⟨by simpa using hn, .inr ⟨b, n, cs, rfl, hb, h, Nat.le_refl _, hm, hn, by rw [List.take_of_length_le (by simp [hn])]⟩⟩
theorem own_type_ne {w : World} {base n size : Nat} {e t : TypeId} {v : Value} {xs : List Value} {g : Nat} {cs : Array Value} {f : Nat × Nat} (h : w.ownsRow base e size v n xs) (hg : w.heap[g]? = some (.cells cs t f)) (hne : e ≠ t) : some g ≠ v.ownBlock := by
 rcases h.2 with ⟨rfl, _⟩ | ⟨g', cap, cur, rfl, _, hh, _⟩
 ·simp [Value.ownBlock]
 ·intro he
  have : g = g' := by simpa [Value.ownBlock] using he
  subst this
  rw [hh] at hg
  cases hg
  exact hne rfl
theorem blk_app {w w' : World} {base n size : Nat} {e t : TypeId} {v : Value} {xs : List Value} {g : Nat} {cs : Array Value} {f : Nat × Nat} (hg : w.heap[g]? = some (.cells cs t f)) (h : w.ownsRow base e size v n xs) (hne : e ≠ t) (hw : w.grownBy w' v.ownBlock) : w'.heap[g]? = some (.cells cs t f) :=
 (hw.block g (blk_lt hg) (own_type_ne h hg hne)).trans hg
section
variable {P : Program} {ops : Array Oper} {rest : List Oper} {o : Oper} {a : Act} {Q : Exit → Act → World → Prop}
theorem run_app (w : World) (base : Nat) (t ty e : TypeId) (z : Value) (size bytes : Nat) (ht : P.underlying t = some (.slice e))
    (hinfo : (P.info? e).map (fun i => (i.zero, i.size, i.bytes)) = some (some z, size, bytes)) (hzs : z.cells.size = size) (hsz : 0 < size)
    (v : Value) (n : Nat) (xs : List Value) (HO : w.ownsRow base e size v n xs)
    (A : Option Addr) (m c : Nat) (news : List Value) (hl : news.length = m * size) (hn : Flat w A news) (h1 : ∀ u ∈ news, u.oneCell' = true) (hb : (n + m) * bytes ≤ 140737488355328) (hm : n + m ≤ 140737488355328) (hbase : base ≤ w.heap.size) :
    ∃ v1 w1, (Builtin.append_ #[t, t] ty #[v, .slice A m c]).run P w = .ok v1 w1 ∧ w1.ownsRow base e size v1 (n + m) (xs ++ news) ∧ w.grownBy w1 v.ownBlock ∧ (v1.ownBlock = v.ownBlock ∨ v1.ownBlock = some w.heap.size) := by
 obtain ⟨i0, hi, hzz⟩ := Option.map_eq_some_iff.1 hinfo
 simp only [Prod.mk.injEq] at hzz
 obtain ⟨hz0, hz1, hz2⟩ := hzz
 rcases A with _ | ad
 ·have h0 : m = 0 := by
     rcases Nat.eq_zero_or_pos m with h0 | h0
     ·exact h0
     ·obtain ⟨ad, h, _⟩ := hn (by rw [hl]; exact Nat.mul_pos h0 hsz)
      cases h
  subst h0
  obtain rfl : news = [] := List.eq_nil_of_length_eq_zero (by simpa using hl)
  refine ⟨v, w, ?_, by simpa using HO, World.grownBy.refl w _, .inl rfl⟩
  rcases HO.2 with ⟨rfl, hn⟩ | ⟨g, cap, cur, rfl, _, _, hnc, _⟩
  ·simp [Builtin.append_, run_underlying ht, sizeOf, typeInfo, hi, Builtin.lenOf, Builtin.firstCells]
  ·simp [Builtin.append_, run_underlying ht, sizeOf, typeInfo, hi, Builtin.lenOf, Builtin.firstCells, hnc, storeCells]
 ·have hcells : ∀ j u, news[j]? = some u → w.cell? (ad.add j) = some u := by
     intro j u hu
     obtain ⟨ad', h', hc⟩ := hn (by have := (List.getElem?_eq_some_iff.1 hu).1; omega)
     injection h' with h'
     subst h'
     exact hc j u hu
  obtain ⟨v1, w1, hr, h2, h3, _, h5⟩ := run_append_own_at (P := P) w base t ty e i0 z size bytes ht hi hz0 hz1 hz2 hzs hsz v n xs HO ad m c news hl hcells h1 (by simp only [maxLen]; omega) hb hbase
  exact ⟨v1, w1, hr, h2, h3, h5⟩
theorem step_app {w : World} {K : Act → World → Prop} {E : Prop} (base : Nat) (hgd : o.guard = none) (s x : Operand) (t e : TypeId) (z : Value) (size bytes : Nat)
    (ho : o.op = .call { callee := .builtin .append, args := #[s, x], argTypes := #[t, t] })
    (ht : P.underlying t = some (.slice e)) (hinfo : (P.info? e).map (fun i => (i.zero, i.size, i.bytes)) = some (some z, size, bytes)) (hzs : z.cells.size = size) (hsz : 0 < size)
    (v : Value) (n : Nat) (xs : List Value) (hs : a.eval s = v) (HO : w.ownsRow base e size v n xs)
    (A : Option Addr) (m c : Nat) (news : List Value) (hx : a.eval x = .slice A m c) (hl : news.length = m * size) (hn : Flat w A news) (h1 : ∀ u ∈ news, u.oneCell' = true) (hb : (n + m) * bytes ≤ 140737488355328) (hm : n + m ≤ 140737488355328) (hbase : base ≤ w.heap.size)
    (h : ∀ A' c' w', w'.ownsRow base e size (.slice A' (n + m) c') (n + m) (xs ++ news) → w.grownBy w' v.ownBlock → ((Value.slice A' (n + m) c').ownBlock = v.ownBlock ∨ (Value.slice A' (n + m) c').ownBlock = some w.heap.size) → K (a.put o.dst (.slice A' (n + m) c')) w') :
    if Region.wanted o (yielded ops a.tmps) = true then Oper.wp P o a w K Q else E := by
 have hw : Region.wanted o (yielded ops a.tmps) = true := by simp [Region.wanted, hgd]
 rw [if_pos hw]
 obtain ⟨v', w', hr, h2, h3, h5⟩ := run_app (P := P) w base t o.type e z size bytes ht hinfo hzs hsz v n xs HO A m c news hl hn h1 hb hm hbase
 unfold Oper.wp execOp
 simp only [ho, resolve, invoke, builtin, Sem.run_bind, Sem.run_pure, Result.andThen_ok, List.map_toArray, List.map_cons, List.map_nil, hs, hx, hr]
 obtain ⟨A', c', rfl⟩ := own_slice h2
 exact h A' c' w' h2 h3 h5
theorem wpList_app {w : World} (base : Nat) (hgd : o.guard = none) (s x : Operand) (t e : TypeId) (z : Value) (size bytes : Nat)
    (ho : o.op = .call { callee := .builtin .append, args := #[s, x], argTypes := #[t, t] })
    (ht : P.underlying t = some (.slice e)) (hinfo : (P.info? e).map (fun i => (i.zero, i.size, i.bytes)) = some (some z, size, bytes)) (hzs : z.cells.size = size) (hsz : 0 < size)
    (v : Value) (n : Nat) (xs : List Value) (hs : a.eval s = v) (HO : w.ownsRow base e size v n xs)
    (A : Option Addr) (m c : Nat) (news : List Value) (hx : a.eval x = .slice A m c) (hl : news.length = m * size) (hn : Flat w A news) (h1 : ∀ u ∈ news, u.oneCell' = true) (hb : (n + m) * bytes ≤ 140737488355328) (hm : n + m ≤ 140737488355328) (hbase : base ≤ w.heap.size)
    (h : ∀ A' c' w', w'.ownsRow base e size (.slice A' (n + m) c') (n + m) (xs ++ news) → w.grownBy w' v.ownBlock → ((Value.slice A' (n + m) c').ownBlock = v.ownBlock ∨ (Value.slice A' (n + m) c').ownBlock = some w.heap.size) → wpList P ops Q rest (a.put o.dst (.slice A' (n + m) c')) w') :
    wpList P ops Q (o :: rest) a w := by
 refine wpList_plain hgd fun K hK => ?_
 obtain ⟨v', w', hr, h2, h3, h5⟩ := run_app (P := P) w base t o.type e z size bytes ht hinfo hzs hsz v n xs HO A m c news hl hn h1 hb hm hbase
 unfold Oper.wp execOp
 simp only [ho, resolve, invoke, builtin, Sem.run_bind, Sem.run_pure, Result.andThen_ok, List.map_toArray, List.map_cons, List.map_nil, hs, hx, hr]
 obtain ⟨A', c', rfl⟩ := own_slice h2
 exact hK _ _ (h A' c' w' h2 h3 h5)
end
end Go.Proofs.YtnppimhlfcjghaaGreat
namespace Go.Proofs.YtnppimhlfcjghaaGreat
open Go.RowKit
def setFrom (c : Array Value) : Nat → List Value → Array Value
 | _, [] => c
 | o, v :: r => setFrom (c.setIfInBounds o v) (o + 1) r
theorem setCells_alloc (w : World) (t : TypeId) : ∀ (vs : List Value) (c : Array Value) (o : Nat), (w.alloc (.cells c t)).setCells w.heap.size o vs = w.alloc (.cells (setFrom c o vs) t)
 | [], _, _ => rfl
 | v :: r, c, o => by
   rw [World.setCells, World.setCell_alloc_at c t w.heap.size o v rfl]
   exact setCells_alloc w t r _ _
theorem setFrom_toList : ∀ (vs : List Value) (c : Array Value) (o : Nat), o + vs.length = c.size → (setFrom c o vs).toList = c.toList.take o ++ vs
 | [], c, o, h => by
   rw [List.append_nil, List.take_of_length_le (by simp at h ⊢; omega)]; rfl
 | v :: r, c, o, h => by
   have h' : o + (r.length + 1) = c.size := by simpa using h
   rw [setFrom, setFrom_toList r _ (o + 1) (by simp; omega)]
   have ho : o < c.size := by omega
   rw [Array.toList_setIfInBounds, List.take_add_one, List.take_set_of_le (Nat.le_refl o), List.getElem?_set_self (by simpa using ho)]
   simp
theorem setFrom_all (vs : List Value) (c : Array Value) (h : vs.length = c.size) : setFrom c 0 vs = vs.toArray := by
 have := setFrom_toList vs c 0 (by omega)
 rw [← Array.toArray_toList (xs := setFrom c 0 vs), this]; simp
section
variable {P : Program} {ops : Array Oper} {rest : List Oper} {a : Act} {Q : Exit → Act → World → Prop} {w : World}
theorem wpList_box {o1 o2 : Oper} (T : TypeId) (d : Tmp) (zs : Array Value) (x : Operand) (cs : List Value) (h1 : o1 = ⟨some d, .alloc T, o1.type, o1.pos, o1.after, none⟩) (h2 : o2 = ⟨none, .store T (.tmp d) x, o2.type, o2.pos, o2.after, none⟩)
    (hd : (a.put (some d) (.pointer (some ⟨w.heap.size, 0, none⟩))).eval (.tmp d) = .pointer (some ⟨w.heap.size, 0, none⟩)) (hz : ∀ W : World, (zeroValue T).run P W = .ok (.agg zs) W) (hzs : zs.size = cs.length) (hx : (a.put (some d) (.pointer (some ⟨w.heap.size, 0, none⟩))).eval x = .agg cs.toArray)
    (hi : (P.info? T).map (·.size) = some cs.length) (hone : cs.all (·.oneCell') = true)
    (h : wpList P ops Q rest (a.put (some d) (.pointer (some ⟨w.heap.size, 0, none⟩))) (w.alloc (.cells cs.toArray T))) : wpList P ops Q (o1 :: o2 :: rest) a w := by
 rw [h1, h2]
 refine wpList_plain rfl fun K hK => ?_
 unfold Oper.wp execOp
 simp only [Instr.alloc, Sem.run_bind, hz, Result.andThen_ok, newVar, newRow, run_newObj_alloc, Sem.run_pure]
 refine hK _ _ ?_
 refine wpList_store_mid rfl T (.tmp d) x rfl w.heap.size 0 cs.toArray hd hx ?_ ?_ ?_ ?_
 ·intro j hj
  have hj' : j < zs.size := by rw [hzs]; simpa using hj
  refine ⟨?_, ?_⟩
  ·rw [Nat.zero_add, blk_cell (heap_new w _)]; simp [Value.cells, hj']
  ·rw [Nat.zero_add]; exact blk_frozen (heap_new w _) j
 ·rw [hi]; simp
 ·exact all_oneCell_toArray (List.all_eq_true.1 hone)
 ·simp only [Act.put]
  rw [setCells_alloc, Value.cells, setFrom_all cs zs hzs.symm]
  exact h
end
end Go.Proofs.YtnppimhlfcjghaaGreat
namespace Go.Proofs.YtnppimhlfcjghaaGreat
open Go.RowKit
structure Pt where
 e : Int
 r : Int
 deriving DecidableEq
structure Vt where
 slot : Int
 head : Int
 src : Pt
 tgt : Pt
 who : List Int
 deriving DecidableEq
structure Pf where
 a : Vt
 b : Vt
 deriving DecidableEq
structure Bk where
 root : Int
 parent : Int
 slot : Int
 votes : List Vt
 proofs : List Pf
 deriving DecidableEq
structure Ev where
 kind : Int
 slot : Int
 block : Bk
 vote : Vt
 proof : Pf
 deriving DecidableEq
def Pt.zero : Pt := ⟨0, 0⟩
def Vt.zero : Vt := ⟨0, 0, Pt.zero, Pt.zero, []⟩
def Pf.zero : Pf := ⟨Vt.zero, Vt.zero⟩
def Bk.zero : Bk := ⟨0, 0, 0, [], []⟩
def Ev.zero : Ev := ⟨0, 0, Bk.zero, Vt.zero, Pf.zero⟩
def inI (x : Int) : Prop := -9223372036854775808 ≤ x ∧ x ≤ 9223372036854775807
def inU (x : Int) : Prop := 0 ≤ x ∧ x ≤ 18446744073709551615
def Pt.wf (p : Pt) : Prop := inI p.e ∧ inU p.r
def Vt.wf (v : Vt) : Prop := inI v.slot ∧ inU v.head ∧ v.src.wf ∧ v.tgt.wf ∧ ∀ x ∈ v.who, inI x
def Pf.wf (p : Pf) : Prop := p.a.wf ∧ p.b.wf
def Bk.wf (b : Bk) : Prop := inU b.root ∧ inU b.parent ∧ inI b.slot ∧ (∀ v ∈ b.votes, v.wf) ∧ ∀ p ∈ b.proofs, p.wf
def Ev.wf (e : Ev) : Prop := inI e.kind ∧ inI e.slot ∧ e.block.wf ∧ e.vote.wf ∧ e.proof.wf
def ptC (p : Pt) : List Value := [.int .i64 p.e, .int .u64 p.r]
def vtC (v : Vt) (A : Option Addr) (c : Nat) : List Value := [.int .i64 v.slot, .int .u64 v.head, .int .i64 v.src.e, .int .u64 v.src.r, .int .i64 v.tgt.e, .int .u64 v.tgt.r, .slice A v.who.length c]
def Fits (n c : Nat) : Prop := n ≤ c ∧ n ≤ maxLen
def VtK (ok : Nat → Prop) (w : World) (v : Vt) (cs : List Value) : Prop := ∃ A c, cs = vtC v A c ∧ Fits v.who.length c ∧ Ints ok .i64 w A v.who
def PfK (ok : Nat → Prop) (w : World) (p : Pf) (cs : List Value) : Prop := ∃ ca cb, cs = ca ++ cb ∧ VtK ok w p.a ca ∧ VtK ok w p.b cb
def bkC (b : Bk) (A : Option Addr) (c : Nat) (A2 : Option Addr) (c2 : Nat) : List Value := [.int .u64 b.root, .int .u64 b.parent, .int .i64 b.slot, .slice A b.votes.length c, .slice A2 b.proofs.length c2]
def Vts (ok : Nat → Prop) (w : World) (A : Option Addr) (vs : List Vt) : Prop := Lie ok (VtK ok w) 7 w A vs
def Pfs (ok : Nat → Prop) (w : World) (A : Option Addr) (ps : List Pf) : Prop := Lie ok (PfK ok w) 14 w A ps
def BkK (ok : Nat → Prop) (w : World) (b : Bk) (cs : List Value) : Prop := ∃ A c A2 c2, cs = bkC b A c A2 c2 ∧ Fits b.votes.length c ∧ Fits b.proofs.length c2 ∧ Vts ok w A b.votes ∧ Pfs ok w A2 b.proofs
def EvK (ok : Nat → Prop) (w : World) (e : Ev) (cs : List Value) : Prop := ∃ cb cv cp, cs = .int .i64 e.kind :: .int .i64 e.slot :: (cb ++ (cv ++ cp)) ∧ BkK ok w e.block cb ∧ VtK ok w e.vote cv ∧ PfK ok w e.proof cp
def Evs (ok : Nat → Prop) (w : World) (A : Option Addr) (es : List Ev) : Prop := Lie ok (EvK ok w) 28 w A es
section
variable {ok ok' : Nat → Prop} {w w' : World}
theorem VtK.mono {v : Vt} {cs : List Value} (h : VtK ok w v cs) (ho : ∀ b, ok b → ok' b) (hw : ∀ b, ok b → b < w.heap.size → w'.heap[b]? = w.heap[b]?) : VtK ok' w' v cs := by
 obtain ⟨A, c, rfl, hf, hi⟩ := h
 exact ⟨A, c, rfl, hf, Lie.mono hi (fun _ _ _ x => x) ho hw⟩
theorem PfK.mono {p : Pf} {cs : List Value} (h : PfK ok w p cs) (ho : ∀ b, ok b → ok' b) (hw : ∀ b, ok b → b < w.heap.size → w'.heap[b]? = w.heap[b]?) : PfK ok' w' p cs := by
 obtain ⟨ca, cb, rfl, h1, h2⟩ := h
 exact ⟨ca, cb, rfl, h1.mono ho hw, h2.mono ho hw⟩
theorem Vts.mono {A : Option Addr} {vs : List Vt} (h : Vts ok w A vs) (ho : ∀ b, ok b → ok' b) (hw : ∀ b, ok b → b < w.heap.size → w'.heap[b]? = w.heap[b]?) : Vts ok' w' A vs :=
 Lie.mono h (fun _ _ _ x => x.mono ho hw) ho hw
theorem Pfs.mono {A : Option Addr} {vs : List Pf} (h : Pfs ok w A vs) (ho : ∀ b, ok b → ok' b) (hw : ∀ b, ok b → b < w.heap.size → w'.heap[b]? = w.heap[b]?) : Pfs ok' w' A vs :=
 Lie.mono h (fun _ _ _ x => x.mono ho hw) ho hw
theorem BkK.mono {b : Bk} {cs : List Value} (h : BkK ok w b cs) (ho : ∀ b, ok b → ok' b) (hw : ∀ b, ok b → b < w.heap.size → w'.heap[b]? = w.heap[b]?) : BkK ok' w' b cs := by
 obtain ⟨A, c, A2, c2, rfl, h1, h2, h3, h4⟩ := h
 exact ⟨A, c, A2, c2, rfl, h1, h2, h3.mono ho hw, h4.mono ho hw⟩
theorem EvK.mono {e : Ev} {cs : List Value} (h : EvK ok w e cs) (ho : ∀ b, ok b → ok' b) (hw : ∀ b, ok b → b < w.heap.size → w'.heap[b]? = w.heap[b]?) : EvK ok' w' e cs := by
 obtain ⟨cb, cv, cp, rfl, h1, h2, h3⟩ := h
 exact ⟨cb, cv, cp, rfl, h1.mono ho hw, h2.mono ho hw, h3.mono ho hw⟩
theorem Evs.mono {A : Option Addr} {es : List Ev} (h : Evs ok w A es) (ho : ∀ b, ok b → ok' b) (hw : ∀ b, ok b → b < w.heap.size → w'.heap[b]? = w.heap[b]?) : Evs ok' w' A es :=
 Lie.mono h (fun _ _ _ x => x.mono ho hw) ho hw
def VtAt (w : World) (b o : Nat) (v : Vt) (A : Option Addr) (c : Nat) : Prop :=
 w.cell? ⟨b, o, none⟩ = some (.int .i64 v.slot) ∧ w.cell? ⟨b, o + 1, none⟩ = some (.int .u64 v.head) ∧ w.cell? ⟨b, o + 2, none⟩ = some (.int .i64 v.src.e) ∧ w.cell? ⟨b, o + 3, none⟩ = some (.int .u64 v.src.r) ∧
 w.cell? ⟨b, o + 4, none⟩ = some (.int .i64 v.tgt.e) ∧ w.cell? ⟨b, o + 5, none⟩ = some (.int .u64 v.tgt.r) ∧ w.cell? ⟨b, o + 6, none⟩ = some (.slice A v.who.length c)
theorem VtAt.below {b o : Nat} {v : Vt} {A : Option Addr} {c : Nat} (h : VtAt w b o v A c) (hb : Below w.heap.size w w') : VtAt w' b o v A c := by
 obtain ⟨h0, h1, h2, h3, h4, h5, h6⟩ := h
 exact ⟨cell_below h0 hb, cell_below h1 hb, cell_below h2 hb, cell_below h3 hb, cell_below h4 hb, cell_below h5 hb, cell_below h6 hb⟩
theorem VtAt.ext {F : Nat → Prop} {b o : Nat} {v : Vt} {A : Option Addr} {c : Nat} (h : VtAt w b o v A c) (hb : Ext F w w') (hF : ¬ F b) : VtAt w' b o v A c := by
 obtain ⟨h0, h1, h2, h3, h4, h5, h6⟩ := h
 exact ⟨cell_ext h0 hb hF, cell_ext h1 hb hF, cell_ext h2 hb hF, cell_ext h3 hb hF, cell_ext h4 hb hF, cell_ext h5 hb hF, cell_ext h6 hb hF⟩
theorem VtK.at_ {v : Vt} {cs : List Value} (h : VtK ok w v cs) {b o : Nat} (hu : ∀ i u, cs[i]? = some u → w.cell? ⟨b, o + i, none⟩ = some u) : ∃ A c, Fits v.who.length c ∧ Ints ok .i64 w A v.who ∧ VtAt w b o v A c := by
 obtain ⟨A, c, rfl, hf, hi⟩ := h
 exact ⟨A, c, hf, hi, hu 0 _ rfl, hu 1 _ rfl, hu 2 _ rfl, hu 3 _ rfl, hu 4 _ rfl, hu 5 _ rfl, hu 6 _ rfl⟩
theorem Vts.get {A : Option Addr} {vs : List Vt} (h : Vts ok w A vs) {k : Nat} {v : Vt} (hk : vs[k]? = some v) : ∃ b o, A = some ⟨b, o, none⟩ ∧ ok b ∧ ∃ A' c', Fits v.who.length c' ∧ Ints ok .i64 w A' v.who ∧ VtAt w b (o + k * 7) v A' c' := by
 obtain ⟨b, o, cs, rfl, hb, hK, _, hu⟩ := Lie.get h hk
 exact ⟨b, o, rfl, hb, hK.at_ (fun i u hi => by rw [Nat.add_assoc]; exact hu i u hi)⟩
theorem Pfs.get {A : Option Addr} {vs : List Pf} (h : Pfs ok w A vs) {k : Nat} {v : Pf} (hk : vs[k]? = some v) : ∃ b o, A = some ⟨b, o, none⟩ ∧ ok b ∧
    ∃ A1 c1 A2 c2, Fits v.a.who.length c1 ∧ Ints ok .i64 w A1 v.a.who ∧ VtAt w b (o + k * 14) v.a A1 c1 ∧ Fits v.b.who.length c2 ∧ Ints ok .i64 w A2 v.b.who ∧ VtAt w b (o + k * 14 + 7) v.b A2 c2 := by
 obtain ⟨b, o, cs, rfl, hb, ⟨ca, cb, rfl, h1, h2⟩, _, hu⟩ := Lie.get h hk
 obtain ⟨A1, c1, f1, i1, a1⟩ := h1.at_ (b := b) (o := o + k * 14) (fun i u hi => by
  rw [Nat.add_assoc]; exact hu i u (by rw [List.getElem?_append_left (List.getElem?_eq_some_iff.1 hi).1]; exact hi))
 have hl : ca.length = 7 := by obtain ⟨A, c, rfl, _⟩ := h1; rfl
 obtain ⟨A2, c2, f2, i2, a2⟩ := h2.at_ (b := b) (o := o + k * 14 + 7) (fun i u hi => by
  rw [show o + k * 14 + 7 + i = o + (k * 14 + (7 + i)) from by omega]; exact hu (7 + i) u (by rw [List.getElem?_append_right (by omega), hl]; simpa using hi))
 exact ⟨b, o, rfl, hb, A1, c1, A2, c2, f1, i1, a1, f2, i2, a2⟩
def EvAt (w : World) (b o : Nat) (e : Ev) (A1 : Option Addr) (c1 : Nat) (A2 : Option Addr) (c2 : Nat) (A3 : Option Addr) (c3 : Nat) (A4 : Option Addr) (c4 : Nat) (A5 : Option Addr) (c5 : Nat) : Prop :=
 (w.cell? ⟨b, o, none⟩ = some (.int .i64 e.kind) ∧ w.cell? ⟨b, o + 1, none⟩ = some (.int .i64 e.slot) ∧ w.cell? ⟨b, o + 2, none⟩ = some (.int .u64 e.block.root) ∧ w.cell? ⟨b, o + 3, none⟩ = some (.int .u64 e.block.parent) ∧
   w.cell? ⟨b, o + 4, none⟩ = some (.int .i64 e.block.slot) ∧ w.cell? ⟨b, o + 5, none⟩ = some (.slice A1 e.block.votes.length c1) ∧ w.cell? ⟨b, o + 6, none⟩ = some (.slice A2 e.block.proofs.length c2)) ∧
 VtAt w b (o + 7) e.vote A3 c3 ∧ VtAt w b (o + 14) e.proof.a A4 c4 ∧ VtAt w b (o + 21) e.proof.b A5 c5
theorem EvAt.below {b o : Nat} {e : Ev} {A1 A2 A3 A4 A5 : Option Addr} {c1 c2 c3 c4 c5 : Nat} (h : EvAt w b o e A1 c1 A2 c2 A3 c3 A4 c4 A5 c5) (hb : Below w.heap.size w w') : EvAt w' b o e A1 c1 A2 c2 A3 c3 A4 c4 A5 c5 := by
 obtain ⟨⟨h0, h1, h2, h3, h4, h5, h6⟩, h7, h8, h9⟩ := h
 exact ⟨⟨cell_below h0 hb, cell_below h1 hb, cell_below h2 hb, cell_below h3 hb, cell_below h4 hb, cell_below h5 hb, cell_below h6 hb⟩, h7.below hb, h8.below hb, h9.below hb⟩
theorem EvAt.ext {F : Nat → Prop} {b o : Nat} {e : Ev} {A1 A2 A3 A4 A5 : Option Addr} {c1 c2 c3 c4 c5 : Nat} (h : EvAt w b o e A1 c1 A2 c2 A3 c3 A4 c4 A5 c5) (hb : Ext F w w') (hF : ¬ F b) : EvAt w' b o e A1 c1 A2 c2 A3 c3 A4 c4 A5 c5 := by
 obtain ⟨⟨h0, h1, h2, h3, h4, h5, h6⟩, h7, h8, h9⟩ := h
 exact ⟨⟨cell_ext h0 hb hF, cell_ext h1 hb hF, cell_ext h2 hb hF, cell_ext h3 hb hF, cell_ext h4 hb hF, cell_ext h5 hb hF, cell_ext h6 hb hF⟩, h7.ext hb hF, h8.ext hb hF, h9.ext hb hF⟩
structure EvR (ok : Nat → Prop) (w : World) (e : Ev) (A1 : Option Addr) (c1 : Nat) (A2 : Option Addr) (c2 : Nat) (A3 : Option Addr) (c3 : Nat) (A4 : Option Addr) (c4 : Nat) (A5 : Option Addr) (c5 : Nat) : Prop where
 f1 : Fits e.block.votes.length c1
 f2 : Fits e.block.proofs.length c2
 f3 : Fits e.vote.who.length c3
 f4 : Fits e.proof.a.who.length c4
 f5 : Fits e.proof.b.who.length c5
 r1 : Vts ok w A1 e.block.votes
 r2 : Pfs ok w A2 e.block.proofs
 r3 : Ints ok .i64 w A3 e.vote.who
 r4 : Ints ok .i64 w A4 e.proof.a.who
 r5 : Ints ok .i64 w A5 e.proof.b.who
theorem EvR.mono {e : Ev} {A1 A2 A3 A4 A5 : Option Addr} {c1 c2 c3 c4 c5 : Nat} (h : EvR ok w e A1 c1 A2 c2 A3 c3 A4 c4 A5 c5) (ho : ∀ b, ok b → ok' b) (hw : ∀ b, ok b → b < w.heap.size → w'.heap[b]? = w.heap[b]?) : EvR ok' w' e A1 c1 A2 c2 A3 c3 A4 c4 A5 c5 :=
 ⟨h.f1, h.f2, h.f3, h.f4, h.f5, h.r1.mono ho hw, h.r2.mono ho hw, Lie.mono h.r3 (fun _ _ _ x => x) ho hw, Lie.mono h.r4 (fun _ _ _ x => x) ho hw, Lie.mono h.r5 (fun _ _ _ x => x) ho hw⟩
theorem EvR.below {e : Ev} {A1 A2 A3 A4 A5 : Option Addr} {c1 c2 c3 c4 c5 : Nat} (h : EvR ok w e A1 c1 A2 c2 A3 c3 A4 c4 A5 c5) (hb : Below w.heap.size w w') : EvR ok w' e A1 c1 A2 c2 A3 c3 A4 c4 A5 c5 := h.mono (fun _ x => x) (fun b _ => hb.block b)
theorem EvR.any {e : Ev} {A1 A2 A3 A4 A5 : Option Addr} {c1 c2 c3 c4 c5 : Nat} (h : EvR ok w e A1 c1 A2 c2 A3 c3 A4 c4 A5 c5) : EvR anyB w e A1 c1 A2 c2 A3 c3 A4 c4 A5 c5 := h.mono (fun _ _ => trivial) (fun _ _ _ => rfl)
theorem EvK.open_ {e : Ev} {cs : List Value} (h : EvK ok w e cs) : ∃ A1 c1 A2 c2 A3 c3 A4 c4 A5 c5, EvR ok w e A1 c1 A2 c2 A3 c3 A4 c4 A5 c5 ∧ cs = [.int .i64 e.kind, .int .i64 e.slot, .int .u64 e.block.root, .int .u64 e.block.parent, .int .i64 e.block.slot, .slice A1 e.block.votes.length c1, .slice A2 e.block.proofs.length c2, .int .i64 e.vote.slot, .int .u64 e.vote.head, .int .i64 e.vote.src.e, .int .u64 e.vote.src.r, .int .i64 e.vote.tgt.e, .int .u64 e.vote.tgt.r, .slice A3 e.vote.who.length c3, .int .i64 e.proof.a.slot, .int .u64 e.proof.a.head, .int .i64 e.proof.a.src.e, .int .u64 e.proof.a.src.r, .int .i64 e.proof.a.tgt.e, .int .u64 e.proof.a.tgt.r, .slice A4 e.proof.a.who.length c4, .int .i64 e.proof.b.slot, .int .u64 e.proof.b.head, .int .i64 e.proof.b.src.e, .int .u64 e.proof.b.src.r, .int .i64 e.proof.b.tgt.e, .int .u64 e.proof.b.tgt.r, .slice A5 e.proof.b.who.length c5] := by
 obtain ⟨cb, cv, cp, rfl, ⟨A1, c1, A2, c2, rfl, f1, f2, r1, r2⟩, ⟨A3, c3, rfl, f3, r3⟩, ⟨ca, cb, rfl, ⟨A4, c4, rfl, f4, r4⟩, ⟨A5, c5, rfl, f5, r5⟩⟩⟩ := h
 exact ⟨A1, c1, A2, c2, A3, c3, A4, c4, A5, c5, ⟨f1, f2, f3, f4, f5, r1, r2, r3, r4, r5⟩, rfl⟩
theorem EvK.shut {e : Ev} {A1 A2 A3 A4 A5 : Option Addr} {c1 c2 c3 c4 c5 : Nat} (h : EvR ok w e A1 c1 A2 c2 A3 c3 A4 c4 A5 c5) : EvK ok w e [.int .i64 e.kind, .int .i64 e.slot, .int .u64 e.block.root, .int .u64 e.block.parent, .int .i64 e.block.slot, .slice A1 e.block.votes.length c1, .slice A2 e.block.proofs.length c2, .int .i64 e.vote.slot, .int .u64 e.vote.head, .int .i64 e.vote.src.e, .int .u64 e.vote.src.r, .int .i64 e.vote.tgt.e, .int .u64 e.vote.tgt.r, .slice A3 e.vote.who.length c3, .int .i64 e.proof.a.slot, .int .u64 e.proof.a.head, .int .i64 e.proof.a.src.e, .int .u64 e.proof.a.src.r, .int .i64 e.proof.a.tgt.e, .int .u64 e.proof.a.tgt.r, .slice A4 e.proof.a.who.length c4, .int .i64 e.proof.b.slot, .int .u64 e.proof.b.head, .int .i64 e.proof.b.src.e, .int .u64 e.proof.b.src.r, .int .i64 e.proof.b.tgt.e, .int .u64 e.proof.b.tgt.r, .slice A5 e.proof.b.who.length c5] :=
 ⟨_, _, _, rfl, ⟨A1, c1, A2, c2, rfl, h.f1, h.f2, h.r1, h.r2⟩, ⟨A3, c3, rfl, h.f3, h.r3⟩, ⟨_, _, rfl, ⟨A4, c4, rfl, h.f4, h.r4⟩, ⟨A5, c5, rfl, h.f5, h.r5⟩⟩⟩
theorem EvAt.of_cells {e : Ev} {A1 A2 A3 A4 A5 : Option Addr} {c1 c2 c3 c4 c5 : Nat} {b o : Nat} (hu : ∀ i u, ([.int .i64 e.kind, .int .i64 e.slot, .int .u64 e.block.root, .int .u64 e.block.parent, .int .i64 e.block.slot, .slice A1 e.block.votes.length c1, .slice A2 e.block.proofs.length c2, .int .i64 e.vote.slot, .int .u64 e.vote.head, .int .i64 e.vote.src.e, .int .u64 e.vote.src.r, .int .i64 e.vote.tgt.e, .int .u64 e.vote.tgt.r, .slice A3 e.vote.who.length c3, .int .i64 e.proof.a.slot, .int .u64 e.proof.a.head, .int .i64 e.proof.a.src.e, .int .u64 e.proof.a.src.r, .int .i64 e.proof.a.tgt.e, .int .u64 e.proof.a.tgt.r, .slice A4 e.proof.a.who.length c4, .int .i64 e.proof.b.slot, .int .u64 e.proof.b.head, .int .i64 e.proof.b.src.e, .int .u64 e.proof.b.src.r, .int .i64 e.proof.b.tgt.e, .int .u64 e.proof.b.tgt.r, .slice A5 e.proof.b.who.length c5] : List Value)[i]? = some u → w.cell? ⟨b, o + i, none⟩ = some u) : EvAt w b o e A1 c1 A2 c2 A3 c3 A4 c4 A5 c5 :=
 ⟨⟨hu 0 _ rfl, hu 1 _ rfl, hu 2 _ rfl, hu 3 _ rfl, hu 4 _ rfl, hu 5 _ rfl, hu 6 _ rfl⟩, ⟨hu 7 _ rfl, hu 8 _ rfl, hu 9 _ rfl, hu 10 _ rfl, hu 11 _ rfl, hu 12 _ rfl, hu 13 _ rfl⟩,
  ⟨hu 14 _ rfl, hu 15 _ rfl, hu 16 _ rfl, hu 17 _ rfl, hu 18 _ rfl, hu 19 _ rfl, hu 20 _ rfl⟩, ⟨hu 21 _ rfl, hu 22 _ rfl, hu 23 _ rfl, hu 24 _ rfl, hu 25 _ rfl, hu 26 _ rfl, hu 27 _ rfl⟩⟩
theorem EvAt.blk {e : Ev} {A1 A2 A3 A4 A5 : Option Addr} {c1 c2 c3 c4 c5 : Nat} {b : Nat} {t : TypeId} {f : Nat × Nat} (h : w.heap[b]? = some (.cells #[.int .i64 e.kind, .int .i64 e.slot, .int .u64 e.block.root, .int .u64 e.block.parent, .int .i64 e.block.slot, .slice A1 e.block.votes.length c1, .slice A2 e.block.proofs.length c2, .int .i64 e.vote.slot, .int .u64 e.vote.head, .int .i64 e.vote.src.e, .int .u64 e.vote.src.r, .int .i64 e.vote.tgt.e, .int .u64 e.vote.tgt.r, .slice A3 e.vote.who.length c3, .int .i64 e.proof.a.slot, .int .u64 e.proof.a.head, .int .i64 e.proof.a.src.e, .int .u64 e.proof.a.src.r, .int .i64 e.proof.a.tgt.e, .int .u64 e.proof.a.tgt.r, .slice A4 e.proof.a.who.length c4, .int .i64 e.proof.b.slot, .int .u64 e.proof.b.head, .int .i64 e.proof.b.src.e, .int .u64 e.proof.b.src.r, .int .i64 e.proof.b.tgt.e, .int .u64 e.proof.b.tgt.r, .slice A5 e.proof.b.who.length c5] t f)) : EvAt w b 0 e A1 c1 A2 c2 A3 c3 A4 c4 A5 c5 :=
 EvAt.of_cells (fun i u hi => by rw [blk_cell h]; simpa using hi)
theorem Evs.get {A : Option Addr} {es : List Ev} (h : Evs ok w A es) {k : Nat} {e : Ev} (hk : es[k]? = some e) : ∃ b o, A = some ⟨b, o, none⟩ ∧ ok b ∧ ∃ A1 c1 A2 c2 A3 c3 A4 c4 A5 c5, EvR ok w e A1 c1 A2 c2 A3 c3 A4 c4 A5 c5 ∧ w.rangeAt b (o + k * 28) [.int .i64 e.kind, .int .i64 e.slot, .int .u64 e.block.root, .int .u64 e.block.parent, .int .i64 e.block.slot, .slice A1 e.block.votes.length c1, .slice A2 e.block.proofs.length c2, .int .i64 e.vote.slot, .int .u64 e.vote.head, .int .i64 e.vote.src.e, .int .u64 e.vote.src.r, .int .i64 e.vote.tgt.e, .int .u64 e.vote.tgt.r, .slice A3 e.vote.who.length c3, .int .i64 e.proof.a.slot, .int .u64 e.proof.a.head, .int .i64 e.proof.a.src.e, .int .u64 e.proof.a.src.r, .int .i64 e.proof.a.tgt.e, .int .u64 e.proof.a.tgt.r, .slice A4 e.proof.a.who.length c4, .int .i64 e.proof.b.slot, .int .u64 e.proof.b.head, .int .i64 e.proof.b.src.e, .int .u64 e.proof.b.src.r, .int .i64 e.proof.b.tgt.e, .int .u64 e.proof.b.tgt.r, .slice A5 e.proof.b.who.length c5] := by
 obtain ⟨b, o, cs, rfl, hb, hK, _, hu⟩ := Lie.get h hk
 obtain ⟨A1, c1, A2, c2, A3, c3, A4, c4, A5, c5, hr, rfl⟩ := hK.open_
 exact ⟨b, o, rfl, hb, A1, c1, A2, c2, A3, c3, A4, c4, A5, c5, hr, fun i u hi => by rw [Nat.add_assoc]; exact hu i u hi⟩
theorem VtK.lt {v : Vt} {cs : List Value} (h : VtK ok w v cs) : VtK (fun b => ok b ∧ b < w.heap.size) w v cs := by
 obtain ⟨A, c, rfl, hf, hi⟩ := h
 exact ⟨A, c, rfl, hf, Lie.lt hi (by decide)⟩
theorem PfK.lt {p : Pf} {cs : List Value} (h : PfK ok w p cs) : PfK (fun b => ok b ∧ b < w.heap.size) w p cs := by
 obtain ⟨ca, cb, rfl, h1, h2⟩ := h
 exact ⟨ca, cb, rfl, h1.lt, h2.lt⟩
theorem Vts.lt {A : Option Addr} {vs : List Vt} (h : Vts ok w A vs) : Vts (fun b => ok b ∧ b < w.heap.size) w A vs := Lie.mono (Lie.lt h (by decide)) (fun _ _ _ x => x.lt) (fun _ x => x) (fun _ _ _ => rfl)
theorem Pfs.lt {A : Option Addr} {vs : List Pf} (h : Pfs ok w A vs) : Pfs (fun b => ok b ∧ b < w.heap.size) w A vs := Lie.mono (Lie.lt h (by decide)) (fun _ _ _ x => x.lt) (fun _ x => x) (fun _ _ _ => rfl)
theorem BkK.lt {b : Bk} {cs : List Value} (h : BkK ok w b cs) : BkK (fun b => ok b ∧ b < w.heap.size) w b cs := by
 obtain ⟨A, c, A2, c2, rfl, h1, h2, h3, h4⟩ := h
 exact ⟨A, c, A2, c2, rfl, h1, h2, h3.lt, h4.lt⟩
theorem EvK.lt {e : Ev} {cs : List Value} (h : EvK ok w e cs) : EvK (fun b => ok b ∧ b < w.heap.size) w e cs := by
 obtain ⟨cb, cv, cp, rfl, h1, h2, h3⟩ := h
 exact ⟨cb, cv, cp, rfl, h1.lt, h2.lt, h3.lt⟩
theorem Evs.lt {A : Option Addr} {es : List Ev} (h : Evs ok w A es) : Evs (fun b => ok b ∧ b < w.heap.size) w A es := Lie.mono (Lie.lt h (by decide)) (fun _ _ _ x => x.lt) (fun _ x => x) (fun _ _ _ => rfl)
theorem VtK.one {v : Vt} {cs : List Value} (h : VtK ok w v cs) : ∀ u ∈ cs, u.oneCell' = true := by
 obtain ⟨A, c, rfl, _⟩ := h
 simp [vtC, Value.oneCell']
theorem EvK.one {e : Ev} {cs : List Value} (h : EvK ok w e cs) : ∀ u ∈ cs, u.oneCell' = true := by
 obtain ⟨cb, cv, cp, rfl, ⟨A1, c1, A2, c2, rfl, _⟩, h2, ⟨ca, cb, rfl, h3, h4⟩⟩ := h
 have h2 := h2.one
 have h3 := h3.one
 have h4 := h4.one
 intro u hu
 simp only [List.mem_cons, List.mem_append, bkC, List.not_mem_nil, or_false] at hu
 rcases hu with rfl | rfl | (rfl | rfl | rfl | rfl | rfl) | hu | hu | hu
 ·rfl
 ·rfl
 ·rfl
 ·rfl
 ·rfl
 ·rfl
 ·rfl
 ·exact h2 u hu
 ·exact h3 u hu
 ·exact h4 u hu
theorem VtK.any {v : Vt} {cs : List Value} (h : VtK ok w v cs) : VtK anyB w v cs := h.mono (fun _ _ => trivial) (fun _ _ _ => rfl)
theorem PfK.any {v : Pf} {cs : List Value} (h : PfK ok w v cs) : PfK anyB w v cs := h.mono (fun _ _ => trivial) (fun _ _ _ => rfl)
theorem BkK.any {v : Bk} {cs : List Value} (h : BkK ok w v cs) : BkK anyB w v cs := h.mono (fun _ _ => trivial) (fun _ _ _ => rfl)
theorem EvK.any {v : Ev} {cs : List Value} (h : EvK ok w v cs) : EvK anyB w v cs := h.mono (fun _ _ => trivial) (fun _ _ _ => rfl)
theorem Vts.any {A : Option Addr} {vs : List Vt} (h : Vts ok w A vs) : Vts anyB w A vs := h.mono (fun _ _ => trivial) (fun _ _ _ => rfl)
theorem Pfs.any {A : Option Addr} {vs : List Pf} (h : Pfs ok w A vs) : Pfs anyB w A vs := h.mono (fun _ _ => trivial) (fun _ _ _ => rfl)
theorem Evs.any {A : Option Addr} {es : List Ev} (h : Evs ok w A es) : Evs anyB w A es := h.mono (fun _ _ => trivial) (fun _ _ _ => rfl)
theorem VtK.below {v : Vt} {cs : List Value} (h : VtK ok w v cs) (hb : Below w.heap.size w w') : VtK ok w' v cs := h.mono (fun _ x => x) (fun b _ => hb.block b)
theorem PfK.below {p : Pf} {cs : List Value} (h : PfK ok w p cs) (hb : Below w.heap.size w w') : PfK ok w' p cs := h.mono (fun _ x => x) (fun b _ => hb.block b)
theorem Vts.below {A : Option Addr} {vs : List Vt} (h : Vts ok w A vs) (hb : Below w.heap.size w w') : Vts ok w' A vs := h.mono (fun _ x => x) (fun b _ => hb.block b)
theorem Pfs.below {A : Option Addr} {vs : List Pf} (h : Pfs ok w A vs) (hb : Below w.heap.size w w') : Pfs ok w' A vs := h.mono (fun _ x => x) (fun b _ => hb.block b)
theorem BkK.below {b : Bk} {cs : List Value} (h : BkK ok w b cs) (hb : Below w.heap.size w w') : BkK ok w' b cs := h.mono (fun _ x => x) (fun b _ => hb.block b)
theorem EvK.below {e : Ev} {cs : List Value} (h : EvK ok w e cs) (hb : Below w.heap.size w w') : EvK ok w' e cs := h.mono (fun _ x => x) (fun b _ => hb.block b)
theorem Evs.below {A : Option Addr} {es : List Ev} (h : Evs ok w A es) (hb : Below w.heap.size w w') : Evs ok w' A es := h.mono (fun _ x => x) (fun b _ => hb.block b)
end
end Go.Proofs.YtnppimhlfcjghaaGreat
namespace Go.Proofs.YtnppimhlfcjghaaGreat
open Go.RowKit
structure Cf where
 bal : List Int
 slots : Int
 boost : Int
 deriving DecidableEq
structure Cf.ok (c : Cf) : Prop where
 l1 : 1 ≤ c.bal.length
 l2 : c.bal.length ≤ 4096
 b0 : ∀ x ∈ c.bal, 0 ≤ x ∧ x ≤ 4294967296
 s1 : 1 ≤ c.slots
 s2 : c.slots ≤ 64
 t1 : 0 ≤ c.boost
 t2 : c.boost ≤ 100
def epochOf (slot slots : Int) : Int := max 0 slot / max 1 slots
def epochStart (e slots : Int) : Int := max 0 e * max 1 slots
def endsL (from_ to slots : Int) : List Int := (List.range (min (epochOf to slots - epochOf from_ slots).toNat 4096)).map fun (k : Nat) => epochOf from_ slots + (k : Int)
def sumI : List Int → Int
 | [] => 0
 | x :: r => x + sumI r
def balAt (bal : List Int) (k : Int) : Int := if 0 ≤ k ∧ k < bal.length then bal.getD k.toNat 0 else 0
def sumW (bal : List Int) (who : List Int) : Int := sumI (who.map (balAt bal))
def iota (n : Nat) : List Int := (List.range n).map fun (k : Nat) => (k : Int)
def totalW (c : Cf) : Int := sumW c.bal (iota c.bal.length)
def boostW (c : Cf) : Int := totalW c / max 1 c.slots * max 0 c.boost / 100
def enough (some all : Int) : Bool := decide (0 < all) && decide (2 * (all / 3) + (2 * (all % 3) + 2) / 3 ≤ some)
def whoBad (n : Int) (who : List Int) (k : Nat) : Bool := decide (who.getD k 0 < 0) || decide (n ≤ who.getD k 0) || (decide (0 < k) && decide (who.getD k 0 ≤ who.getD (k - 1) 0))
def whoOk (n : Int) (who : List Int) : Bool := (List.range who.length).all fun k => !whoBad n who k
def rightB (c : Cf) (v : Vt) : Bool :=
 !(v.who.length == 0) && decide (0 ≤ v.slot) && decide (0 ≤ v.src.e) && decide (v.src.e ≤ v.tgt.e) && (v.tgt.e == epochOf v.slot c.slots) && whoOk c.bal.length v.who
def sameB (a b : Vt) : Bool := (a.slot == b.slot) && (a.head == b.head) && (a.src == b.src) && (a.tgt == b.tgt)
def doubleB (a b : Vt) : Bool := (a.tgt.e == b.tgt.e) && !sameB a b
def aroundB (a b : Vt) : Bool := decide (a.src.e < b.src.e) && decide (b.tgt.e < a.tgt.e)
def badB (a b : Vt) : Bool := doubleB a b || aroundB a b || aroundB b a
def bothL (a b : Vt) : List Int := a.who.filter fun x => b.who.contains x
def slashWho (c : Cf) (p : Pf) : List Int := if rightB c p.a && rightB c p.b && badB p.a p.b then bothL p.a p.b else []
structure En where
 has : Bool
 epoch : Int
 root : Int
 banned : Bool
 deriving DecidableEq
def En.zero : En := ⟨false, 0, 0, false⟩
def entry (v : List En) (k : Int) : Option En := if 0 ≤ k then v[k.toNat]? else none
def takes (v : List En) (who epoch : Int) : Bool :=
 match entry v who with
 | none => false
 | some x => !(x.banned || (x.has && decide (epoch ≤ x.epoch)))
def takeV (v : List En) (who epoch root : Int) : List En := if takes v who epoch then v.set who.toNat ⟨true, epoch, root, false⟩ else v
def bans (v : List En) (who : Int) : Bool :=
 match entry v who with
 | none => false
 | some x => !x.banned
def banV (v : List En) (who : Int) : List En := if bans v who then v.modify who.toNat fun x => { x with banned := true } else v
def getV (v : List En) (who : Int) : Int × Bool :=
 match entry v who with
 | none => (0, false)
 | some x => if !x.has || x.banned then (0, false) else (x.root, true)
def lk {α : Type} (l : List (Int × α)) (k : Int) : Option α := l.lookup k
def put {α : Type} : List (Int × α) → Int → α → List (Int × α)
 | [], k, v => [(k, v)]
 | (k', v') :: r, k, v => if k = k' then (k', v) :: r else (k', v') :: put r k v
def del {α : Type} : List (Int × α) → Int → List (Int × α)
 | [], _ => []
 | (k', v') :: r, k => if k = k' then r else (k', v') :: del r k
def keys {α : Type} (l : List (Int × α)) : List Int := l.map (·.1)
def sortI (l : List Int) : List Int := l.mergeSort fun x y => decide (x ≤ y)
structure Nd where
 parent : Int
 slot : Int
 height : Int
 deriving DecidableEq
def Nd.zero : Nd := ⟨0, 0, 0⟩
structure Tr where
 first : Int
 nodes : List (Int × Nd)
def Tr.of (root slot : Int) : Tr := ⟨root, [(root, ⟨root, slot, 0⟩)]⟩
def Tr.has (t : Tr) (r : Int) : Bool := (lk t.nodes r).isSome
def Tr.nd (t : Tr) (r : Int) : Nd := (lk t.nodes r).getD Nd.zero
def Tr.atF (t : Tr) (slot : Int) : Nat → Int → Int
 | 0, r => r
 | n + 1, r => if r ≠ t.first ∧ slot < (t.nd r).slot then Tr.atF t slot n (t.nd r).parent else r
def Tr.at_ (t : Tr) (r slot : Int) : Int := if t.has r then t.atF slot (t.nd r).height.toNat r else 0
def Tr.below (t : Tr) (r on : Int) : Bool := t.has on && (t.has r && (t.at_ r (t.nd on).slot == on))
def Tr.roots (t : Tr) : List Int := sortI (keys t.nodes)
def Tr.kids (t : Tr) (r : Int) : List Int := t.roots.filter fun x => !(x == t.first) && ((t.nd x).parent == r)
structure Tr.ok (t : Tr) : Prop where
 nodup : (keys t.nodes).Nodup
 fst : t.has t.first = true
 rng : ∀ p ∈ t.nodes, (0 ≤ p.1 ∧ p.1 ≤ 18446744073709551615) ∧ (0 ≤ p.2.parent ∧ p.2.parent ≤ 18446744073709551615) ∧ (0 ≤ p.2.slot ∧ p.2.slot ≤ 1099511627776) ∧ 0 ≤ p.2.height ∧ p.2.height ≤ p.2.slot
 up : ∀ r, t.has r = true → r ≠ t.first → t.has (t.nd r).parent = true ∧ (t.nd (t.nd r).parent).slot < (t.nd r).slot ∧ (t.nd r).height = (t.nd (t.nd r).parent).height + 1
 len : t.nodes.length ≤ 1024
def Tr.addE (t : Tr) (root parent slot : Int) : Int :=
 if t.has root then 6
 else if t.has parent = false then 5
 else if slot ≤ (t.nd parent).slot then 7
 else if 1024 ≤ t.nodes.length then 12
 else 0
def Tr.add (t : Tr) (root parent slot : Int) : Tr := ⟨t.first, put t.nodes root ⟨parent, slot, (t.nd parent).height + 1⟩⟩
def Tr.gone (t : Tr) (root : Int) : List Int := t.roots.filter fun r => !t.below r root
def Tr.stay (t : Tr) (root : Int) : List (Int × Nd) := (t.roots.filter fun r => t.below r root).map fun r => (r, { t.nd r with height := (t.nd r).height - (t.nd root).height })
def Tr.cut (t : Tr) (root : Int) : Tr := ⟨root, put (t.stay root) root { (lk (t.stay root) root).getD Nd.zero with parent := root }⟩
structure Js where
 b0 : Bool
 b1 : Bool
 b2 : Bool
 b3 : Bool
 prev : Pt
 cur : Pt
 fin : Pt
 deriving DecidableEq
def Js.zero : Js := ⟨false, false, false, false, Pt.zero, Pt.zero, Pt.zero⟩
def nextJ (s : Js) (epoch : Int) (before now : Bool) (first second : Pt) : Js :=
 let c0 := now
 let c1 := before || s.b0
 let c2 := s.b1
 let c3 := s.b2
 ⟨c0, c1, c2, c3, s.cur, if now then second else if before then first else s.cur,
  if c0 && c1 && (s.cur.e + 1 == epoch) then s.cur
  else if c0 && c1 && c2 && (s.cur.e + 2 == epoch) then s.cur
  else if c1 && c2 && (s.prev.e + 2 == epoch) then s.prev
  else if c1 && c2 && c3 && (s.prev.e + 3 == epoch) then s.prev
  else s.fin⟩
structure Ls where
 j : Js
 epoch : Int
 before : List Bool
 now : List Bool
 deriving DecidableEq
def Ls.zero : Ls := ⟨Js.zero, 0, [], []⟩
def openL (c : Cf) (root : Int) : Ls := ⟨⟨false, false, false, false, ⟨0, root⟩, ⟨0, root⟩, ⟨0, root⟩⟩, 0, List.replicate c.bal.length false, List.replicate c.bal.length false⟩
def pointL (c : Cf) (e : Int) (at_ : Int → Int) : Pt := ⟨max 0 e, at_ (epochStart e c.slots)⟩
def whoL (is : List Bool) : List Int := (iota is.length).filter fun k => is.getD k.toNat false
def pullL (c : Cf) (s : Ls) (at_ : Int → Int) : Js :=
 if s.epoch < 2 then s.j
 else nextJ s.j s.epoch (enough (sumW c.bal (whoL s.before)) (totalW c)) (enough (sumW c.bal (whoL s.now)) (totalW c)) (pointL c (s.epoch - 1) at_) (pointL c s.epoch at_)
def stepL (c : Cf) (at_ : Int → Int) (s : Ls) (e : Int) : Ls := ⟨pullL c s at_, e + 1, s.now, List.replicate c.bal.length false⟩
def advanceL (c : Cf) (s : Ls) (slot : Int) (at_ : Int → Int) : Ls := (endsL (s.epoch * max 1 c.slots) slot c.slots).foldl (stepL c at_) s
def countB (c : Cf) (s : Ls) (v : Vt) (at_ : Int → Int) : Bool :=
 rightB c v && ((v.tgt.e == s.epoch) || (v.tgt.e + 1 == s.epoch)) && (v.src == if v.tgt.e == s.epoch then s.j.cur else s.j.prev) && (v.tgt == pointL c v.tgt.e at_)
def setAll (is : List Bool) (who : List Int) : List Bool := who.foldl (fun l k => l.set k.toNat true) is
def countL (c : Cf) (at_ : Int → Int) (s : Ls) (v : Vt) : Ls :=
 if countB c s v at_ then (if v.tgt.e == s.epoch then { s with now := setAll s.now v.who } else { s with before := setAll s.before v.who }) else s
structure Chg where
 kind : Int
 root : Int
 parent : Int
 who : Int
 frm : Int
 had : Bool
 deriving DecidableEq
structure St where
 c : Cf
 tree : Tr
 votes : List En
 slot : Int
 boosted : Int
 just : Pt
 fin : Pt
 ledgers : List (Int × Ls)
 gone : List (Int × Bool)
def St.of (c : Cf) : St := ⟨c, Tr.of 1 0, List.replicate c.bal.length En.zero, 0, 0, ⟨0, 1⟩, ⟨0, 1⟩, [(1, openL c 1)], []⟩
abbrev SC := St × List Chg
def attestE (s : St) (v : Vt) (inside : Bool) : Int :=
 if !rightB s.c v then 9
 else if s.slot < v.slot ∨ (inside = false ∧ v.slot = s.slot) then 4
 else if inside = false ∧ v.tgt.e + 1 < epochOf s.slot s.c.slots then 3
 else if s.tree.has v.head = false ∨ v.slot < (s.tree.nd v.head).slot then 10
 else if s.tree.at_ v.head (epochStart v.tgt.e s.c.slots) ≠ v.tgt.r then 9
 else 0
def moveOne (epoch root : Int) (x : SC) (k : Int) : SC :=
 if takes x.1.votes k epoch then ({ x.1 with votes := takeV x.1.votes k epoch root }, x.2 ++ [⟨1, root, 0, k, (getV x.1.votes k).1, (getV x.1.votes k).2⟩]) else x
def attestS (x : SC) (v : Vt) (inside : Bool) : SC :=
 if attestE x.1 v inside = 0 then v.who.foldl (moveOne v.tgt.e v.head) x else x
def banOne (x : SC) (k : Int) : SC :=
 if bans x.1.votes k then ({ x.1 with votes := banV x.1.votes k }, x.2 ++ [⟨2, 0, 0, k, (getV x.1.votes k).1, (getV x.1.votes k).2⟩]) else x
def slashE (s : St) (p : Pf) : Int := if (slashWho s.c p).length = 0 then 11 else 0
def slashS (x : SC) (p : Pf) : SC := (slashWho x.1.c p).foldl banOne x
def delAll {α : Type} (l : List (Int × α)) (ks : List Int) : List (Int × α) := ks.foldl del l
def putAll (l : List (Int × Bool)) (ks : List Int) : List (Int × Bool) := ks.foldl (fun l k => put l k true) l
def raiseJ (s : St) (j : Pt) : St := if s.just.e < j.e ∧ s.tree.below j.r s.fin.r = true then { s with just := j } else s
def cutS (s : St) (f : Pt) : St :=
 { s with fin := f, tree := s.tree.cut f.r, ledgers := delAll s.ledgers (s.tree.gone f.r), gone := putAll s.gone (s.tree.gone f.r),
          boosted := if (s.tree.cut f.r).has s.boosted then s.boosted else 0 }
def raiseS (x : SC) (j f : Pt) : SC :=
 let s := raiseJ x.1 j
 if f.e ≤ s.fin.e ∨ s.tree.below f.r s.fin.r = false ∨ s.tree.below s.just.r f.r = false then (s, x.2)
 else (cutS s f, x.2 ++ [⟨3, f.r, 0, 0, 0, false⟩])
def proposeE (s : St) (b : Bk) : Int :=
 if s.slot < b.slot then 4
 else if b.root = 0 then 13
 else if 16 < b.votes.length ∨ 16 < b.proofs.length then 12
 else if (lk s.gone b.root).getD false = true then 6
 else s.tree.addE b.root b.parent b.slot
def ledgerP (s : St) (b : Bk) : Ls := b.votes.foldl (countL s.c ((s.tree.add b.root b.parent b.slot).at_ b.root)) (advanceL s.c ((lk s.ledgers b.parent).getD Ls.zero) b.slot ((s.tree.add b.root b.parent b.slot).at_ b.root))
def proposeS (s : St) (b : Bk) : SC :=
 let l := ledgerP s b
 let x0 : SC := ({ s with tree := s.tree.add b.root b.parent b.slot, ledgers := put s.ledgers b.root l }, [⟨0, b.root, b.parent, 0, 0, false⟩])
 let x1 := b.votes.foldl (fun x v => attestS x v true) x0
 let x2 := b.proofs.foldl slashS x1
 let x3 : SC := (if b.slot = x2.1.slot ∧ x2.1.boosted = 0 then { x2.1 with boosted := b.root } else x2.1, x2.2)
 let x4 := raiseS x3 l.j.cur l.j.fin
 let p := pullL x4.1.c l (x4.1.tree.at_ b.root)
 if epochOf b.slot x4.1.c.slots < epochOf x4.1.slot x4.1.c.slots then raiseS x4 p.cur p.fin else x4
def applyS (s : St) (e : Ev) : SC × Int :=
 if e.kind = 0 then
  if e.slot ≤ s.slot then ((s, []), 3) else if 1099511627776 < e.slot then ((s, []), 4) else (({ s with slot := e.slot, boosted := 0 }, []), 0)
 else if e.kind = 1 then
  if proposeE s e.block = 0 then (proposeS s e.block, 0) else ((s, []), proposeE s e.block)
 else if e.kind = 2 then (attestS (s, []) e.vote false, attestE s e.vote false)
 else if e.kind = 3 then (slashS (s, []) e.proof, slashE s e.proof)
 else ((s, []), 1)
def sourceOf (s : St) (r : Int) (l : Ls) : Int :=
 if epochOf (s.tree.nd r).slot s.c.slots < epochOf s.slot s.c.slots then (pullL s.c l (s.tree.at_ r)).cur.e else l.j.cur.e
end Go.Proofs.YtnppimhlfcjghaaGreat
namespace Go.Proofs.YtnppimhlfcjghaaGreat
theorem sA {α : Type} (l : List α) (i : Nat) (a : α) : l.toArray.setIfInBounds i a = (l.set i a).toArray := List.setIfInBounds_toArray l i a
theorem sB {α : Type} {x a : α} {l : List α} : (x :: l).set 0 a = a :: l := List.set_cons_zero
theorem sC {α : Type} {x a : α} {l : List α} {n : Nat} : (x :: l).set (n + 1) a = x :: l.set n a := List.set_cons_succ
end Go.Proofs.YtnppimhlfcjghaaGreat
