import Derived.Test.YtnppimhlfcjghaaGreatPOps2
import Derived.Test.YtnppimhlfcjghaaGreatPMap
import Derived.Test.YtnppimhlfcjghaaGreatPOpsK
import Derived.Test.YtnppimhlfcjghaaGreatPJust
import Derived.Test.YtnppimhlfcjghaaGreatPAdv
import Derived.Conc.MuLone
set_option linter.all false
set_option linter.unusedVariables false
set_option linter.unusedSimpArgs false
namespace Go.Proofs.YtnppimhlfcjghaaGreat
open Go.RowKit
section
variable {P : Program} {ops : Array Oper} {o : Oper} {a : Act} {w : World} {Q : Exit → Act → World → Prop} {K : Act → World → Prop} {E : Prop}
theorem step_storeB (hgd : o.guard = none) (ty : TypeId) (x y : Operand) (ho : o.op = .store ty x y) (b : Nat) (cs vs : List Value) {t : TypeId} (h : w.heap[b]? = some (.cells cs.toArray t (0, 0))) (hl : vs.length = cs.length) (hx : a.eval x = .pointer (some ⟨b, 0, none⟩)) (hy : a.eval y = .agg vs.toArray)
    (hi : (P.info? ty).map (·.size) = some vs.length) (h1 : vs.all (·.oneCell') = true)
    (hK : ∀ w', w'.heap[b]? = some (.cells vs.toArray t (0, 0)) → Ext (fun i => i = b) w w' → w'.heap.size = w.heap.size → K (a.put o.dst undef) w') : if Region.wanted o (yielded ops a.tmps) = true then Oper.wp P o a w K Q else E := by
 have hw : Region.wanted o (yielded ops a.tmps) = true := by simp [Region.wanted, hgd]
 rw [if_pos hw]
 refine wp_store_mid ty x y ho b 0 vs.toArray hx hy (there_blk h (by simp; omega)) (by simpa using hi) (all_oneCell_toArray (List.all_eq_true.1 h1)) (hK _ ?_ (ext_setCells b _ _ w).1 (ext_setCells b _ _ w).2)
 have := blk_setCells vs cs.toArray 0 w h
 rw [setFrom_all vs cs.toArray (by simpa using hl)] at this
 exact this
theorem step_put (hg : o.guard = none) (m x v : Operand) (t : TypeId) (hop : o.op = Op.mapUpdate t m x v) (kt et : TypeId) (ht : P.underlying t = some (.map kt et)) (hk : P.underlying kt = some (.int .u64)) (b : Nat) (kvs : List (Int × Value))
    (hm : a.eval m = .map (some b)) (h : MapAt w b kvs) (k : Int) (val : Value) (hx : a.eval x = .int .u64 k) (hv : a.eval v = val)
    (hK : ∀ w', MapAt w' b (put kvs k val) → Ext (fun i => i = b) w w' → w'.heap.size = w.heap.size → K (a.put o.dst undef) w') : if Region.wanted o (yielded ops a.tmps) = true then Oper.wp P o a w K Q else E := by
 have hw : Region.wanted o (yielded ops a.tmps) = true := by simp [Region.wanted, hg]
 rw [if_pos hw]
 obtain ⟨w', hrun, r1, r2, r3⟩ := run_put h ht hk k val
 unfold Oper.wp
 simp [execOp, hop, hm, hx, hv, hrun, Result.andThen]
 exact hK w' r1 r2 r3
end
theorem below_ext {n b : Nat} {w w1 w2 : World} (h : Below n w w1) (hx : Ext (fun i => i = b) w1 w2) (hn : n ≤ w.heap.size) (hb : n ≤ b) : Below n w w2 :=
 ⟨hx.os.trans h.os, hx.tape.trans h.tape, hx.output.trans h.output, Nat.le_trans h.size hx.size, fun i hi => (hx.block i (by have := h.size; omega) (fun e => by
  have e' : i = b := e
  omega)).trans (h.block i hi)⟩
end Go.Proofs.YtnppimhlfcjghaaGreat
namespace Go.Proofs.YtnppimhlfcjghaaGreat
open Go.RowKit
section
variable {P : Program} {ops : Array Oper} {o : Oper} {a : Act} {w : World} {Q : Exit → Act → World → Prop} {K : Act → World → Prop} {E : Prop}
theorem step_storeP (hgd : o.guard = none) (ty : TypeId) (x y : Operand) (ho : o.op = .store ty x y) (b off : Nat) (all vs : List Value) {t : TypeId} (h : w.heap[b]? = some (.cells all.toArray t (0, 0))) (hl : off + vs.length ≤ all.length) (hx : a.eval x = .pointer (some ⟨b, off, none⟩)) (hy : a.eval y = .agg vs.toArray)
    (hi : (P.info? ty).map (·.size) = some vs.length) (h1 : vs.all (·.oneCell') = true) (nw : List Value) (hn : splice all off vs = nw)
    (hK : ∀ w', w'.heap[b]? = some (.cells nw.toArray t (0, 0)) → Ext (fun i => i = b) w w' → w'.heap.size = w.heap.size → K (a.put o.dst undef) w') : if Region.wanted o (yielded ops a.tmps) = true then Oper.wp P o a w K Q else E := by
 have hw : Region.wanted o (yielded ops a.tmps) = true := by simp [Region.wanted, hgd]
 rw [if_pos hw]
 refine wp_store_mid ty x y ho b off vs.toArray hx hy (there_blk h (by simp; omega)) (by simpa using hi) (all_oneCell_toArray (List.all_eq_true.1 h1)) (hK _ ?_ (ext_setCells b _ _ w).1 (ext_setCells b _ _ w).2)
 have := blk_setCells vs all.toArray off w h
 rw [← hn, ← setFrom_splice vs all off hl, Array.toArray_toList]
 exact this
end
end Go.Proofs.YtnppimhlfcjghaaGreat
namespace Go.Proofs.YtnppimhlfcjghaaGreat
open Go.RowKit
set_option maxRecDepth 100000
set_option maxHeartbeats 4000000
theorem at_inU {t : Tr} (hok : t.ok) (s : Int) : ∀ (n : Nat) (r : Int), inU r → inU (t.atF s n r) := by
 intro n
 induction n with
 | zero => intro r h; exact h
 | succ n ih =>
  intro r h
  unfold Tr.atF
  split
  ·refine ih _ ?_
   unfold Tr.nd
   cases hl : lk t.nodes r with
   | none => simp [Nd.zero, inU]
   | some d =>
    have := hok.rng (r, d) (lk_mem hl)
    exact ⟨this.2.1.1, this.2.1.2⟩
  ·exact h
theorem chain1_calls {W : World} {b1 b2 sb tb nb : Nat} {t : Tr} {r : Int} {T1 T2 : TypeId} (h1 : W.heap[b1]? = some (.cells #[.pointer (some ⟨sb, 0, none⟩)] T1 (0, 0))) (h2 : W.heap[b2]? = some (.cells #[.int .u64 r] T2 (0, 0))) (h3 : W.cell? ⟨sb, 3, none⟩ = some (.pointer (some ⟨tb, 0, none⟩))) (hT : TreeAt W tb nb t) (hok : t.ok) (s : Int) :
    Calls Tryz.prog 78 #[.int .i64 s, .pointer (some ⟨b1, 0, none⟩), .pointer (some ⟨b2, 0, none⟩)] W fun e W' => e = .returned (.int .u64 (t.at_ r s)) ∧ Below W.heap.size W W' := by
 have cA := fun (W' : World) (hW : Below W.heap.size W W') => At_calls (hT.below hW) hok r s
 have K : ∀ W', Below W.heap.size W W' → W'.cell? ⟨b1, 0, none⟩ = some (.pointer (some ⟨sb, 0, none⟩)) ∧ W'.cell? ⟨b2, 0, none⟩ = some (.int .u64 r) ∧ W'.cell? ⟨sb, 3, none⟩ = some (.pointer (some ⟨tb, 0, none⟩)) := fun W' hW =>
  ⟨blk_cell (blk_below h1 hW) 0, blk_cell (blk_below h2 hW) 0, cell_below h3 hW⟩
 have hD : Below W.heap.size W W.drew := (Below.refl _ _).drew
 clear h1 h2 h3 hT
 go_enter Tryz.func78, Tryz.ntmps78
 go_upto_region 1 with fail
 go_region_held3 (fun w' => w'.cell? ⟨b1, 0, none⟩ = some (.pointer (some ⟨sb, 0, none⟩)) ∧ w'.cell? ⟨b2, 0, none⟩ = some (.int .u64 r) ∧ w'.cell? ⟨sb, 3, none⟩ = some (.pointer (some ⟨tb, 0, none⟩)))
  (with_reducible exact K _ (by assumption))
  (first
    | (go_at_call 49; (with_reducible refine (cA _ hD).mono ?_); rintro e w2 ⟨rfl, hb2'⟩; have hb2 := hD.trans (hb2'.mono hD.size)))
 go_wp2
 go_ret
 exact ⟨rfl, hb2⟩
def chainV (b1 b2 : Nat) : Array Value := #[.pointer (some ⟨b1, 0, none⟩), .pointer (some ⟨b2, 0, none⟩)]
theorem chain_at {w w' : World} {b1 b2 sb tb nb : Nat} {t : Tr} {r : Int} {T1 T2 : TypeId} (q0 : w'.heap[b1]? = some (.cells #[.pointer (some ⟨sb, 0, none⟩)] T1 (0, 0))) (q1 : w'.heap[b2]? = some (.cells #[.int .u64 r] T2 (0, 0))) (hbw : Below w.heap.size w w')
    (h3 : w.cell? ⟨sb, 3, none⟩ = some (.pointer (some ⟨tb, 0, none⟩))) (hT : TreeAt w tb nb t) (hok : t.ok) (hr : inU r) : ChainAt w' 78 (chainV b1 b2) (fun s => t.at_ r s) := by
 refine ⟨?_, ?_, ?_⟩
 ·exact fun args W => Go.MuLone.run_callFunc_enter (P := Tryz.prog) Tryz.func78 (by kernel_rfl) rfl args W
 ·intro W s hW
  exact chain1_calls (blk_below q0 hW) (blk_below q1 hW) (cell_below (cell_below h3 hbw) hW) ((hT.below hbw).below hW) hok s
 ·intro s
  show inU (t.at_ r s)
  unfold Tr.at_
  split
  ·exact at_inU hok s _ r hr
  ·simp [inU]
theorem chain_calls (w : World) {sb tb nb : Nat} {t : Tr} {r : Int} (h3 : w.cell? ⟨sb, 3, none⟩ = some (.pointer (some ⟨tb, 0, none⟩))) (hT : TreeAt w tb nb t) (hok : t.ok) (hr : inU r) :
    Calls Tryz.prog 55 #[.pointer (some ⟨sb, 0, none⟩), .int .u64 r] w fun e w' => e = .returned (.func (.func 78) #[] (chainV w.heap.size (w.heap.size + 1))) ∧ ChainAt w' 78 (chainV w.heap.size (w.heap.size + 1)) (fun s => t.at_ r s) ∧ Below w.heap.size w w' := by
 go_enter Tryz.func55, Tryz.ntmps55
 go_wp2
 go_ret
 exact ⟨rfl, chain_at (alloc2 w _ _).1 (alloc2 w _ _).2.1 (alloc2 w _ _).2.2.1 h3 hT hok hr, (alloc2 w _ _).2.2.1⟩
end Go.Proofs.YtnppimhlfcjghaaGreat
