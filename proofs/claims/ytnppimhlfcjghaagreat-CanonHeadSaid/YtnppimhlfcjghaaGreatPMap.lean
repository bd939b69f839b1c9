import Derived.Test.YtnppimhlfcjghaaGreatPBase
import Derived.OwnWalk
import Derived.Maps.Own
import Derived.Maps.OwnOps
import Derived.Maps.RangeRun
set_option linter.all false
set_option linter.unusedVariables false
set_option linter.unusedSimpArgs false
namespace Go.Proofs.YtnppimhlfcjghaaGreat
open Go.RowKit Go.MapKept Go.ChangeMaps
section
variable {α : Type}
theorem lk_nil (k : Int) : lk ([] : List (Int × α)) k = none := rfl
theorem lk_cons (k k' : Int) (v : α) (l : List (Int × α)) : lk ((k', v) :: l) k = if k = k' then some v else lk l k := by
 simp only [lk, List.lookup_cons]
 by_cases h : k = k'
 ·subst h; simp
 ·have : (k == k') = false := by simpa using h
  rw [this, if_neg h]
theorem lk_mem {l : List (Int × α)} {k : Int} {v : α} (h : lk l k = some v) : (k, v) ∈ l := by
 induction l with
 | nil => simp [lk_nil] at h
 | cons p l ih =>
  obtain ⟨k', v'⟩ := p
  rw [lk_cons] at h
  split at h
  ·next e => subst e; simp at h; subst h; simp
  ·exact List.mem_cons_of_mem _ (ih h)
theorem lk_none {l : List (Int × α)} {k : Int} : lk l k = none ↔ k ∉ keys l := by
 induction l with
 | nil => simp [lk_nil, keys]
 | cons p l ih =>
  obtain ⟨k', v'⟩ := p
  rw [lk_cons]
  by_cases e : k = k'
  ·simp [e, keys]
  ·rw [if_neg e, ih]; simp [keys, e]
theorem lk_of_mem {l : List (Int × α)} (hn : (keys l).Nodup) {k : Int} {v : α} (h : (k, v) ∈ l) : lk l k = some v := by
 induction l with
 | nil => simp at h
 | cons p l ih =>
  obtain ⟨k', v'⟩ := p
  rw [lk_cons]
  simp only [keys, List.map_cons, List.nodup_cons] at hn
  rcases List.mem_cons.1 h with e | e
  ·injection e with e1 e2; subst e1; subst e2; simp
  ·have : k ≠ k' := fun q => hn.1 (by subst q; exact List.mem_map.2 ⟨_, e, rfl⟩)
   rw [if_neg this]; exact ih hn.2 e
theorem lk_isSome {l : List (Int × α)} {k : Int} : (lk l k).isSome = true ↔ k ∈ keys l := by
 rw [← Decidable.not_not (p := k ∈ keys l), ← lk_none]
 cases lk l k <;> simp
theorem lk_put (l : List (Int × α)) (k j : Int) (v : α) : lk (put l k v) j = if j = k then some v else lk l j := by
 induction l with
 | nil => simp [put, lk_cons, lk_nil]
 | cons p l ih =>
  obtain ⟨k', v'⟩ := p
  simp only [put]
  split
  ·next e =>
   subst e
   rw [lk_cons, lk_cons]
   by_cases h : j = k <;> simp [h]
  ·next e =>
   rw [lk_cons, lk_cons, ih]
   by_cases h : j = k'
   ·subst h; simp [Ne.symm e]
   ·simp [h]
theorem keys_put (l : List (Int × α)) (k : Int) (v : α) : keys (put l k v) = if k ∈ keys l then keys l else keys l ++ [k] := by
 induction l with
 | nil => simp [put, keys]
 | cons p l ih =>
  obtain ⟨k', v'⟩ := p
  simp only [put]
  split
  ·next e => subst e; simp [keys]
  ·next e =>
   simp only [keys, List.map_cons, List.mem_cons] at ih ⊢
   rw [ih]
   by_cases h : k ∈ List.map (·.1) l <;> simp [h, e]
theorem nodup_put {l : List (Int × α)} (h : (keys l).Nodup) (k : Int) (v : α) : (keys (put l k v)).Nodup := by
 rw [keys_put]
 split
 ·exact h
 ·next e => exact List.nodup_append.2 ⟨h, by simp, fun a ha b hb => by simp at hb; subst hb; exact fun q => e (q ▸ ha)⟩
theorem put_new {l : List (Int × α)} {k : Int} (h : k ∉ keys l) (v : α) : put l k v = l ++ [(k, v)] := by
 induction l with
 | nil => rfl
 | cons p l ih =>
  obtain ⟨k', v'⟩ := p
  simp only [keys, List.map_cons, List.mem_cons, not_or] at h
  simp only [put, if_neg h.1, List.cons_append, ih h.2]
theorem keys_del (l : List (Int × α)) (k : Int) : keys (del l k) = (keys l).erase k := by
 induction l with
 | nil => rfl
 | cons p l ih =>
  obtain ⟨k', v'⟩ := p
  simp only [del]
  split
  ·next e => subst e; simp [keys]
  ·next e =>
   simp only [keys, List.map_cons] at ih ⊢
   rw [ih, List.erase_cons_tail (by simp; exact fun q => e q.symm)]
theorem lk_del {l : List (Int × α)} (hn : (keys l).Nodup) (k j : Int) : lk (del l k) j = if j = k then none else lk l j := by
 induction l with
 | nil => simp [del, lk_nil]
 | cons p l ih =>
  obtain ⟨k', v'⟩ := p
  simp only [keys, List.map_cons, List.nodup_cons] at hn
  simp only [del]
  split
  ·next e =>
   subst e
   rw [lk_cons]
   by_cases h : j = k
   ·subst h; simp; exact lk_none.2 hn.1
   ·simp [h]
  ·next e =>
   rw [lk_cons, lk_cons, ih hn.2]
   by_cases h : j = k'
   ·subst h; simp [Ne.symm e]
   ·simp [h]
theorem nodup_del {l : List (Int × α)} (h : (keys l).Nodup) (k : Int) : (keys (del l k)).Nodup := by
 rw [keys_del]; exact h.erase k
theorem mem_put {l : List (Int × α)} {k : Int} {v : α} {p : Int × α} (h : p ∈ put l k v) : p = (k, v) ∨ p ∈ l := by
 induction l with
 | nil => simp [put] at h; exact .inl h
 | cons q l ih =>
  obtain ⟨k', v'⟩ := q
  simp only [put] at h
  split at h
  ·next e =>
   subst e
   rcases List.mem_cons.1 h with e | e
   ·exact .inl e
   ·exact .inr (List.mem_cons_of_mem _ e)
  ·rcases List.mem_cons.1 h with e | e
   ·exact .inr (by simp [e])
   ·rcases ih e with e | e
    ·exact .inl e
    ·exact .inr (List.mem_cons_of_mem _ e)
theorem mem_del {l : List (Int × α)} {k : Int} {p : Int × α} (h : p ∈ del l k) : p ∈ l := by
 induction l with
 | nil => simp [del] at h
 | cons q l ih =>
  obtain ⟨k', v'⟩ := q
  simp only [del] at h
  split at h
  ·exact List.mem_cons_of_mem _ h
  ·rcases List.mem_cons.1 h with e | e
   ·simp [e]
   ·exact List.mem_cons_of_mem _ (ih e)
def Rel2 {β : Type} (R : α → β → Prop) : List (Int × α) → List (Int × β) → Prop
 | [], [] => True
 | (k, x) :: l, (k', y) :: m => k = k' ∧ R x y ∧ Rel2 R l m
 | _, _ => False
theorem Rel2.keys {β : Type} {R : α → β → Prop} : ∀ {l : List (Int × α)} {m : List (Int × β)}, Rel2 R l m → Go.Proofs.YtnppimhlfcjghaaGreat.keys l = Go.Proofs.YtnppimhlfcjghaaGreat.keys m
 | [], [], _ => rfl
 | (_, _) :: l, (_, _) :: m, ⟨h1, _, h3⟩ => by
   have := h3.keys
   simp only [Go.Proofs.YtnppimhlfcjghaaGreat.keys, List.map_cons] at this ⊢
   rw [h1, this]
 | [], _ :: _, h => h.elim
 | _ :: _, [], h => h.elim
theorem Rel2.lk {β : Type} {R : α → β → Prop} (k : Int) : ∀ {l : List (Int × α)} {m : List (Int × β)}, Rel2 R l m → (Go.Proofs.YtnppimhlfcjghaaGreat.lk l k = none ∧ Go.Proofs.YtnppimhlfcjghaaGreat.lk m k = none) ∨ ∃ x y, Go.Proofs.YtnppimhlfcjghaaGreat.lk l k = some x ∧ Go.Proofs.YtnppimhlfcjghaaGreat.lk m k = some y ∧ R x y
 | [], [], _ => .inl ⟨rfl, rfl⟩
 | (k1, x) :: l, (k2, y) :: m, ⟨h1, h2, h3⟩ => by
   subst h1
   rw [lk_cons, lk_cons]
   by_cases e : k = k1
   ·rw [if_pos e, if_pos e]; exact .inr ⟨x, y, rfl, rfl, h2⟩
   ·rw [if_neg e, if_neg e]; exact h3.lk k
 | [], _ :: _, h => h.elim
 | _ :: _, [], h => h.elim
theorem Rel2.put {β : Type} {R : α → β → Prop} {k : Int} {x : α} {y : β} (hxy : R x y) : ∀ {l : List (Int × α)} {m : List (Int × β)}, Rel2 R l m → Rel2 R (Go.Proofs.YtnppimhlfcjghaaGreat.put l k x) (Go.Proofs.YtnppimhlfcjghaaGreat.put m k y)
 | [], [], _ => ⟨rfl, hxy, trivial⟩
 | (k1, _) :: l, (k2, _) :: m, ⟨h1, h2, h3⟩ => by
   subst h1
   simp only [Go.Proofs.YtnppimhlfcjghaaGreat.put]
   split
   ·exact ⟨rfl, hxy, h3⟩
   ·exact ⟨rfl, h2, h3.put hxy⟩
 | [], _ :: _, h => h.elim
 | _ :: _, [], h => h.elim
theorem Rel2.del {β : Type} {R : α → β → Prop} {k : Int} : ∀ {l : List (Int × α)} {m : List (Int × β)}, Rel2 R l m → Rel2 R (Go.Proofs.YtnppimhlfcjghaaGreat.del l k) (Go.Proofs.YtnppimhlfcjghaaGreat.del m k)
 | [], [], _ => trivial
 | (k1, _) :: l, (k2, _) :: m, ⟨h1, h2, h3⟩ => by
   subst h1
   simp only [Go.Proofs.YtnppimhlfcjghaaGreat.del]
   split
   ·exact h3
   ·exact ⟨rfl, h2, h3.del⟩
 | [], _ :: _, h => h.elim
 | _ :: _, [], h => h.elim
theorem Rel2.mono {β : Type} {R S : α → β → Prop} (hRS : ∀ x y, R x y → S x y) : ∀ {l : List (Int × α)} {m : List (Int × β)}, Rel2 R l m → Rel2 S l m
 | [], [], _ => trivial
 | (_, _) :: _, (_, _) :: _, ⟨h1, h2, h3⟩ => ⟨h1, hRS _ _ h2, h3.mono hRS⟩
 | [], _ :: _, h => h.elim
 | _ :: _, [], h => h.elim
theorem Rel2.length {β : Type} {R : α → β → Prop} {l : List (Int × α)} {m : List (Int × β)} (h : Rel2 R l m) : l.length = m.length := by
 have := congrArg List.length h.keys
 simpa [Go.Proofs.YtnppimhlfcjghaaGreat.keys] using this
theorem Rel2.map {β : Type} {R : α → β → Prop} (f : α → β) (hf : ∀ x, R x (f x)) : ∀ (l : List (Int × α)), Rel2 R l (l.map fun p => (p.1, f p.2))
 | [] => trivial
 | (_, _) :: l => ⟨rfl, hf _, Rel2.map f hf l⟩
theorem put_map {β : Type} (f : α → β) (k : Int) (v : α) : ∀ (l : List (Int × α)), put (l.map fun p => (p.1, f p.2)) k (f v) = (put l k v).map fun p => (p.1, f p.2)
 | [] => rfl
 | (k', v') :: l => by
   simp only [List.map_cons, put]
   split <;> simp [put_map f k v l]
theorem del_map {β : Type} (f : α → β) (k : Int) : ∀ (l : List (Int × α)), del (l.map fun p => (p.1, f p.2)) k = (del l k).map fun p => (p.1, f p.2)
 | [] => rfl
 | (k', v') :: l => by
   simp only [List.map_cons, del]
   split <;> simp [del_map f k l]
theorem lk_map {β : Type} (f : α → β) (k : Int) : ∀ (l : List (Int × α)), lk (l.map fun p => (p.1, f p.2)) k = (lk l k).map f
 | [] => rfl
 | (k', v') :: l => by
   simp only [List.map_cons, lk_cons]
   split
   ·rfl
   ·exact lk_map f k l
theorem keys_map {β : Type} (f : α → β) (l : List (Int × α)) : keys (l.map fun p => (p.1, f p.2)) = keys l := by
 simp [keys, Function.comp_def]
end
def MapAt (w : World) (b : Nat) (kvs : List (Int × Value)) : Prop :=
 ∃ es clk, w.heap[b]? = some (.map es clk) ∧ Stamped es clk ∧ es.toList.map (fun e => (e.key, e.val)) = kvs.map fun p => (Value.int .u64 p.1, p.2)
theorem MapAt.of_blk {w w' : World} {b : Nat} {kvs : List (Int × Value)} (h : MapAt w b kvs) (hb : w'.heap[b]? = w.heap[b]?) : MapAt w' b kvs := by
 obtain ⟨es, clk, h1, h2⟩ := h
 exact ⟨es, clk, hb.trans h1, h2⟩
theorem MapAt.lt {w : World} {b : Nat} {kvs : List (Int × Value)} (h : MapAt w b kvs) : b < w.heap.size := by
 obtain ⟨es, clk, h1, _⟩ := h; exact blk_lt h1
theorem MapAt.below {w w' : World} {b : Nat} {kvs : List (Int × Value)} (h : MapAt w b kvs) (hb : Below w.heap.size w w') : MapAt w' b kvs := h.of_blk (hb.block b h.lt)
theorem MapAt.ext {w w' : World} {F : Nat → Prop} {b : Nat} {kvs : List (Int × Value)} (h : MapAt w b kvs) (hb : Ext F w w') (hF : ¬ F b) : MapAt w' b kvs := h.of_blk (hb.block b h.lt hF)
theorem MapAt.new (w : World) : MapAt (w.alloc (.map #[] 0)) w.heap.size [] := ⟨#[], 0, heap_new w _, stamped_empty 0, rfl⟩
theorem MapAt.keysOf {es : Array MapEntry} {kvs : List (Int × Value)} (h : es.toList.map (fun e => (e.key, e.val)) = kvs.map fun p => (Value.int .u64 p.1, p.2)) : es.toList.map (·.key) = kvs.map fun p => Value.int .u64 p.1 := by
 have := congrArg (List.map Prod.fst) h
 simpa [Function.comp_def] using this
theorem MapAt.nodup {w : World} {b : Nat} {kvs : List (Int × Value)} (h : MapAt w b kvs) : (keys kvs).Nodup := by
 obtain ⟨es, clk, _, ⟨_, _, h3⟩, h4⟩ := h
 rw [MapAt.keysOf h4] at h3
 unfold keys
 rw [show (kvs.map fun p => Value.int .u64 p.1) = (kvs.map (·.1)).map (Value.int .u64) from by simp [Function.comp_def]] at h3
 exact (List.pairwise_map.1 h3).imp fun hne e => hne (by rw [e])
theorem findNow_u64 (k : Int) : ∀ (l : List MapEntry) (kvs : List (Int × Value)) (i : Nat), l.map (fun e => (e.key, e.val)) = kvs.map (fun p => (Value.int .u64 p.1, p.2)) →
    (lk kvs k = none ∧ Instr.findNow (.int .u64) (.int .u64 k) l i = some none) ∨ ∃ j v, lk kvs k = some v ∧ Instr.findNow (.int .u64) (.int .u64 k) l i = some (some (i + j, v)) ∧ kvs[j]? = some (k, v) ∧ ∀ j', j' < j → ∀ p, kvs[j']? = some p → p.1 ≠ k
 | [], kvs, i, h => by
   have : kvs = [] := by simpa using h.symm
   subst this
   exact .inl ⟨rfl, rfl⟩
 | e :: l, [], i, h => by simp at h
 | e :: l, (k', v') :: kvs, i, h => by
   simp only [List.map_cons, List.cons.injEq, Prod.mk.injEq] at h
   obtain ⟨⟨h1, h2⟩, h3⟩ := h
   rw [lk_cons]
   by_cases hk : k = k'
   ·subst hk
    exact .inr ⟨0, v', by simp, by simp [Instr.findNow, Instr.sameNow, h1, h2], by simp, fun j' hj => by omega⟩
   ·have hb : (k == k') = false := by simpa using hk
    rcases findNow_u64 k l kvs (i + 1) h3 with ⟨a, b⟩ | ⟨j, v, a, b, c, d⟩
    ·exact .inl ⟨by rw [if_neg hk, a], by simp [Instr.findNow, Instr.sameNow, h1, hb, b]⟩
    ·refine .inr ⟨j + 1, v, by rw [if_neg hk, a], by simp [Instr.findNow, Instr.sameNow, h1, hb, b]; omega, by simpa using c, fun j' hj p hp => ?_⟩
     match j', hj, hp with
     | 0, _, hp => simp at hp; subst hp; exact Ne.symm hk
     | j' + 1, hj, hp => exact d j' (by omega) p (by simpa using hp)
section
variable {P : Program} {w : World} {b : Nat} {kvs : List (Int × Value)} {t kt et : TypeId}
theorem run_look (h : MapAt w b kvs) (ht : P.underlying t = some (.map kt et)) (hk : P.underlying kt = some (.int .u64)) {z : Value} (hz : (zeroValue et).run P w = .ok z w) (k : Int) (ok : Bool) :
    (Instr.lookup t (.map (some b)) (.int .u64 k) ok).run P w = .ok (if ok then .tuple #[(lk kvs k).getD z, .bool (lk kvs k).isSome] else (lk kvs k).getD z) w := by
 obtain ⟨es, clk, h1, _, h3⟩ := h
 unfold Instr.lookup
 simp only [Sem.run_bind, run_underlying ht, Result.andThen_ok, Go.MapKept.run_getObj_map h1, Sem.run_pure, run_checkKey (k := .int .u64 k) hk rfl]
 rcases findNow_u64 k es.toList kvs 0 h3 with ⟨a, c⟩ | ⟨j, v, a, c, _⟩
 ·simp only [run_findKey hk c, Result.andThen_ok, Sem.run_bind, hz, Sem.run_pure, a]
  rfl
 ·simp only [run_findKey hk c, Result.andThen_ok, Sem.run_bind, Sem.run_pure, a]
  rfl
theorem setBlock_ext (w : World) (r : Nat) (o : Obj) : Ext (fun i => i = r) w (setBlock w r o) :=
 ⟨rfl, rfl, rfl, by simp [setBlock], fun k _ hk => by simp [setBlock, Ne.symm hk]⟩
theorem setBlock_heap (w : World) (r : Nat) (o : Obj) (h : r < w.heap.size) : (setBlock w r o).heap[r]? = some o := by
 simp [setBlock, h]
theorem setBlock_size (w : World) (r : Nat) (o : Obj) : (setBlock w r o).heap.size = w.heap.size := by simp [setBlock]
theorem run_setObj_map {w : World} {r : Nat} {es : Array MapEntry} {clk : Nat} (hr : w.heap[r]? = some (.map es clk)) (o' : Obj) : (setObj r o').run P w = .ok () (setBlock w r o') := by
 simp [setObj, Sem.run, hr, setBlock]
theorem modify_map (es : Array MapEntry) (i : Nat) (key val : Value) (kvs : List (Int × Value)) (k : Int) (h : es.toList.map (fun e => (e.key, e.val)) = kvs.map fun p => (Value.int .u64 p.1, p.2)) (v0 : Value) (hi : kvs[i]? = some (k, v0)) (hfirst : ∀ j', j' < i → ∀ p, kvs[j']? = some p → p.1 ≠ k) (hkey : key = .int .u64 k) :
    (es.modify i fun e => { e with key, val }).toList.map (fun e => (e.key, e.val)) = (put kvs k val).map fun p => (Value.int .u64 p.1, p.2) := by
 have hput : ∀ (kvs : List (Int × Value)) (i : Nat), kvs[i]? = some (k, v0) → (∀ j', j' < i → ∀ p, kvs[j']? = some p → p.1 ≠ k) → put kvs k val = kvs.set i (k, val) := by
  intro kvs
  induction kvs with
  | nil => intro i h; simp at h
  | cons p l ih =>
   obtain ⟨k', v'⟩ := p
   intro i hi hf
   match i, hi, hf with
   | 0, hi, _ =>
    simp only [List.getElem?_cons_zero, Option.some.injEq, Prod.mk.injEq] at hi
    obtain ⟨rfl, rfl⟩ := hi
    simp [put]
   | i + 1, hi, hf =>
    have hne : k ≠ k' := fun e => hf 0 (by omega) (k', v') rfl e.symm
    simp only [put, if_neg hne, List.set_cons_succ]
    rw [ih i (by simpa using hi) (fun j' hj p hp => hf (j' + 1) (by omega) p (by simpa using hp))]
 rw [hput kvs i hi hfirst]
 apply List.ext_getElem?
 intro j
 have hj := congrArg (fun l => l[j]?) h
 simp only [List.getElem?_map, Array.getElem?_toList, Array.getElem?_modify, List.getElem?_set] at hj ⊢
 have hil : i < kvs.length := (List.getElem?_eq_some_iff.1 hi).1
 by_cases hij : i = j
 ·subst hij
  rw [hi] at hj
  cases he : es[i]? with
  | none => rw [he] at hj; simp at hj
  | some e => simp [hil, hkey]
 ·simp only [hij, if_false]
  exact hj
theorem run_put (h : MapAt w b kvs) (ht : P.underlying t = some (.map kt et)) (hk : P.underlying kt = some (.int .u64)) (k : Int) (v : Value) :
    ∃ w', (Instr.mapUpdate t (.map (some b)) (.int .u64 k) v).run P w = .ok () w' ∧ MapAt w' b (put kvs k v) ∧ Ext (fun i => i = b) w w' ∧ w'.heap.size = w.heap.size := by
 obtain ⟨es, clk, h1, h2, h3⟩ := h
 have hbl := blk_lt h1
 unfold Instr.mapUpdate
 simp only [Sem.run_bind, run_underlying ht, Result.andThen_ok, Go.MapKept.run_getObj_map h1, run_checkKey (k := .int .u64 k) hk rfl]
 rcases findNow_u64 k es.toList kvs 0 h3 with ⟨a, c⟩ | ⟨j, v0, a, c, d, f⟩
 ·simp only [run_findKey hk c, Result.andThen_ok, run_setObj_map h1]
  have hnk : k ∉ keys kvs := lk_none.1 a
  refine ⟨_, rfl, ⟨_, _, setBlock_heap w b _ hbl, stamped_push h2 ?_, ?_⟩, setBlock_ext w b _, setBlock_size w b _⟩
  ·intro x hx he
   have hx' : x.key ∈ es.toList.map (·.key) := List.mem_map.2 ⟨x, hx, rfl⟩
   rw [MapAt.keysOf h3, he] at hx'
   obtain ⟨p, hp, e⟩ := List.mem_map.1 hx'
   injection e with _ e
   exact hnk (List.mem_map.2 ⟨p, hp, e⟩)
  ·rw [put_new hnk]
   simp [h3]
 ·have hke : ((es[0 + j]?).map (·.key)).getD (.int .u64 k) = .int .u64 k := by
     have hj := congrArg (fun l => l[j]?) h3
     simp only [List.getElem?_map, Array.getElem?_toList, d, Option.map_some] at hj
     cases he : es[j]? with
     | none => simp [he]
     | some e => rw [he] at hj; simp at hj; simp [he, hj.1]
  have hstay : (Instr.keyThatStays (.int .u64 k) (.int .u64 k)).run P w = .ok (.int .u64 k) w := by
   simp [Instr.keyThatStays, Instr.sameBits]
  simp only [run_findKey hk c, Result.andThen_ok, Sem.run_bind, hke, hstay, run_setObj_map h1]
  rw [Nat.zero_add]
  have hm := modify_map es j (.int .u64 k) v kvs k h3 v0 d f rfl
  refine ⟨_, rfl, ⟨_, _, setBlock_heap w b _ hbl, stamped_modify h2 j _ (fun _ _ => rfl) (fun e _ he => ?_), hm⟩, setBlock_ext w b _, setBlock_size w b _⟩
  have hj := congrArg (fun l => l[j]?) h3
  simp only [List.getElem?_map, Array.getElem?_toList, d, Option.map_some, he] at hj
  simp at hj
  exact hj.1.symm
theorem map_erase {α β : Type} (f : α → β) : ∀ (l : List α) (i : Nat), (l.eraseIdx i).map f = (l.map f).eraseIdx i
 | [], _ => rfl
 | _ :: _, 0 => rfl
 | x :: l, i + 1 => by simp [map_erase f l i]
theorem run_drop (h : MapAt w b kvs) (ht : P.underlying t = some (.map kt et)) (hk : P.underlying kt = some (.int .u64)) (k : Int) (t2 ty : TypeId) :
    ∃ w', (Builtin.delete_ #[t, t2] ty #[.map (some b), .int .u64 k]).run P w = .ok (.tuple #[]) w' ∧ MapAt w' b (del kvs k) ∧ Ext (fun i => i = b) w w' ∧ w'.heap.size = w.heap.size := by
 obtain ⟨es, clk, h1, h2, h3⟩ := h
 have hbl := blk_lt h1
 unfold Builtin.delete_
 simp only [List.getElem?_toArray, List.getElem?_cons_zero, List.getElem?_cons_succ, Sem.run_bind, run_underlying ht, Result.andThen_ok, Go.MapKept.run_getObj_map h1, run_checkKey (k := .int .u64 k) hk rfl]
 rcases findNow_u64 k es.toList kvs 0 h3 with ⟨a, c⟩ | ⟨j, v0, a, c, d, f⟩
 ·have hnk : k ∉ keys kvs := lk_none.1 a
  have hd : del kvs k = kvs := by
   clear a c h3
   induction kvs with
   | nil => rfl
   | cons p l ih =>
    obtain ⟨k', v'⟩ := p
    simp only [keys, List.map_cons, List.mem_cons, not_or] at hnk
    simp only [del, if_neg hnk.1, ih hnk.2]
  simp only [run_findKey hk c, Result.andThen_ok, Sem.run_bind, run_setObj_map h1, Sem.run_pure]
  exact ⟨_, rfl, ⟨_, _, setBlock_heap w b _ hbl, h2, by rw [hd]; exact h3⟩, setBlock_ext w b _, setBlock_size w b _⟩
 ·simp only [run_findKey hk c, Result.andThen_ok, Sem.run_bind, run_setObj_map h1, Sem.run_pure]
  rw [Nat.zero_add]
  refine ⟨_, rfl, ⟨_, _, setBlock_heap w b _ hbl, stamped_erase h2 j, ?_⟩, setBlock_ext w b _, setBlock_size w b _⟩
  have hdel : ∀ (kvs : List (Int × Value)) (i : Nat), kvs[i]? = some (k, v0) → (∀ j', j' < i → ∀ p, kvs[j']? = some p → p.1 ≠ k) → del kvs k = kvs.eraseIdx i := by
   intro kvs
   induction kvs with
   | nil => intro i h; simp at h
   | cons p l ih =>
    obtain ⟨k', v'⟩ := p
    intro i hi hf
    match i, hi, hf with
    | 0, hi, _ =>
     simp only [List.getElem?_cons_zero, Option.some.injEq, Prod.mk.injEq] at hi
     obtain ⟨rfl, rfl⟩ := hi
     simp [del]
    | i + 1, hi, hf =>
     have hne : k ≠ k' := fun e => hf 0 (by omega) (k', v') rfl e.symm
     simp only [del, if_neg hne, List.eraseIdx_cons_succ]
     rw [ih i (by simpa using hi) (fun j' hj p hp => hf (j' + 1) (by omega) p (by simpa using hp))]
  have hjl : j < es.size := by
   have := congrArg List.length h3
   simp at this
   have := (List.getElem?_eq_some_iff.1 d).1
   omega
  rw [hdel kvs j d f]
  have he : (es.eraseIdxIfInBounds j).toList = es.toList.eraseIdx j := by
   unfold Array.eraseIdxIfInBounds
   rw [dif_pos hjl, Array.toList_eraseIdx]
  rw [he, map_erase, h3, map_erase]
theorem MapAt.len (h : MapAt w b kvs) (ht : P.underlying t = some (.map kt et)) (ty : TypeId) : (Builtin.len_ #[t] ty #[.map (some b)]).run P w = .ok (.int .i64 kvs.length) w := by
 obtain ⟨es, clk, h1, _, h3⟩ := h
 have hs : es.size = kvs.length := by simpa using congrArg List.length h3
 simp only [Builtin.len_, List.getElem?_toArray, List.getElem?_cons_zero, Sem.run_bind, run_underlying ht, Result.andThen_ok, Go.MapKept.run_getObj_map h1, Sem.run_pure, hs]
 rfl
theorem MapAt.size {w : World} {b : Nat} {kvs : List (Int × Value)} (h : MapAt w b kvs) : ∃ es clk, w.heap[b]? = some (.map es clk) ∧ es.size = kvs.length := by
 obtain ⟨es, clk, h1, _, h3⟩ := h
 exact ⟨es, clk, h1, by simpa using congrArg List.length h3⟩
end
section
variable {P : Program} {w : World} {ops : Array Oper} {rest : List Oper} {o : Oper} {a : Act} {Q : Exit → Act → World → Prop}
theorem wpList_put (hg : o.guard = none) (m x v : Operand) (t : TypeId) (hop : o.op = Op.mapUpdate t m x v) (kt et : TypeId) (ht : P.underlying t = some (.map kt et)) (hk : P.underlying kt = some (.int .u64)) (b : Nat) (kvs : List (Int × Value))
    (hm : a.eval m = .map (some b)) (h : MapAt w b kvs) (k : Int) (val : Value) (hx : a.eval x = .int .u64 k) (hv : a.eval v = val)
    (hK : ∀ w', MapAt w' b (put kvs k val) → Ext (fun i => i = b) w w' → w'.heap.size = w.heap.size → wpList P ops Q rest (a.put o.dst undef) w') : wpList P ops Q (o :: rest) a w := by
 refine wpList_plain hg fun K' hK' => ?_
 obtain ⟨w', hrun, r1, r2, r3⟩ := run_put h ht hk k val
 unfold Oper.wp
 simp [execOp, hop, hm, hx, hv, hrun, Result.andThen]
 exact hK' _ _ (hK w' r1 r2 r3)
theorem wpList_ins (hg : o.guard = none) (m x v : Operand) (t : TypeId) (hop : o.op = Op.insert t m x v) (kt et : TypeId) (ht : P.underlying t = some (.map kt et)) (hk : P.underlying kt = some (.int .u64)) (b : Nat) (kvs : List (Int × Value))
    (hm : a.eval m = .map (some b)) (h : MapAt w b kvs) (k : Int) (val : Value) (hx : a.eval x = .int .u64 k) (hv : a.eval v = val)
    (hK : ∀ w', MapAt w' b (put kvs k val) → Ext (fun i => i = b) w w' → w'.heap.size = w.heap.size → wpList P ops Q rest (a.put o.dst undef) w') : wpList P ops Q (o :: rest) a w := by
 refine wpList_plain hg fun K' hK' => ?_
 obtain ⟨w', hrun, r1, r2, r3⟩ := run_put h ht hk k val
 unfold Oper.wp
 simp [execOp, hop, hm, hx, hv, hrun, Result.andThen]
 exact hK' _ _ (hK w' r1 r2 r3)
theorem wpList_drop (hg : o.guard = none) (m x : Operand) (t t2 : TypeId) (hop : o.op = Op.call { callee := Callee.builtin Builtin.delete, args := #[m, x], argTypes := #[t, t2] }) (kt et : TypeId) (ht : P.underlying t = some (.map kt et)) (hk : P.underlying kt = some (.int .u64)) (b : Nat) (kvs : List (Int × Value))
    (hm : a.eval m = .map (some b)) (h : MapAt w b kvs) (k : Int) (hx : a.eval x = .int .u64 k)
    (hK : ∀ w', MapAt w' b (del kvs k) → Ext (fun i => i = b) w w' → w'.heap.size = w.heap.size → wpList P ops Q rest (a.put o.dst (.tuple #[])) w') : wpList P ops Q (o :: rest) a w := by
 refine wpList_plain hg fun K' hK' => ?_
 obtain ⟨w', hrun, r1, r2, r3⟩ := run_drop h ht hk k t2 o.type
 unfold Oper.wp
 simp [execOp, hop, resolve, invoke, builtin, hm, hx, hrun, Result.andThen]
 exact hK' _ _ (hK w' r1 r2 r3)
end
end Go.Proofs.YtnppimhlfcjghaaGreat
