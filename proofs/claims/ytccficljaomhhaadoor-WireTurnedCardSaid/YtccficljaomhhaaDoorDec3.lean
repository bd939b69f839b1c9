/- wire: the reader: point, vote. -/
import Derived.Test.YtccficljaomhhaaDoorDec2
import Derived.Laws.Rows
import Derived.Test.YtccficljaomhhaaDoorTypes
namespace Go.Proofs.YtccficljaomhhaaDoor
open Go.RowKit
attribute [local go_sem ↓] Go.wp_at_zero Go.wp_at_succ
variable {B R : Nat} {A : Option Addr} {n c : Nat} {bs : List Int}
theorem RS.far {w : World} {s : Rd} (h : RS B R A n c bs w s) {P : Nat} (hP : P ≠ R) (hl : B ≤ P) (i : Nat) (u : Value) : RS B R A n c bs (w.setCell ⟨P, i, none⟩ u) s :=
  h.ext ((Ext.refl (· = P) w).setCell (.inl rfl) u) (fun e => hP e.symm) (fun _ e => .inr (e ▸ hl))
/-- Cells that are new at a call's end: what was written into them is not seen. -/
theorem Ext.far {w w' : World} {F : Nat → Prop} (h : Ext F w w') {P : Nat} (hl : w.heap.size ≤ P) (i : Nat) (u : Value) : Ext F w (w'.setCell ⟨P, i, none⟩ u) := h.setCell (.inr hl) u
theorem infoI64 : (Tryd.prog.info? 3).map (fun i => (i.zero, i.size, i.bytes)) = some (some (.int .i64 0), 1, 8) := by kernel_rfl
theorem iPt : (Tryd.prog.info? 33).map (·.size) = some 2 := by kernel_rfl
set_option maxHeartbeats 400000 in
theorem rpoint_calls (w : World) (s : Rd) (h : RS B R A n c bs w s) :
    Calls Tryd.prog 26 #[.pointer (some ⟨R, 0, none⟩)] w fun e w' =>
      e = .returned (.agg #[.int .i64 (pointR s).1.e, .int .u64 (pointR s).1.r]) ∧ RS B R A n c bs w' (pointR s).2 ∧ Ext (· = R) w w' := by
  have hlt := h.lt
  go_enter Tryd.func26, Tryd.ntmps26
  go_upto_region 1 with fail
  generalize hW1 : w.alloc (Obj.cells _ 33) = W1
  have hP := heap_new w (Obj.cells #[.int .i64 0, .int .u64 0] 33)
  rw [hW1] at hP
  have hx1 : Ext (· = R) w W1 := by rw [← hW1]; exact (Ext.refl _ _).alloc _
  have h1 : RS B R A n c bs W1 s := h.below (by rw [← hW1]; exact below_alloc (Below.refl _ _) _)
  clear hW1
  have hPR : w.heap.size ≠ R := by omega
  have hPB : B ≤ w.heap.size := h.lo
  have hPw : w.heap.size ≤ w.heap.size := Nat.le_refl _
  generalize hPe : w.heap.size = P at hP hPR hPB ⊢
  go_wp2_with (first
    | (go_at_call 15; refine (rsmall_calls _ s _ h1 (by decide) (by decide)).mono ?_; rintro e w2 ⟨rfl, h2, hx2⟩; have hP2 := blk_ext hP hx2 hPR)
    | (go_at_call 25; refine (rroot_calls _ _ h2).mono ?_; rintro e w3 ⟨rfl, h3, hx3⟩; have hP3 := blk_ext hP2 hx3 hPR; have k0 := blk_cell hP3 0; have k1 := blk_cell hP3 1; have f0 := blk_frozen hP3 0; have f1 := blk_frozen hP3 1))
  have hP4 := blk_set (blk_set hP3 0 (.int .i64 (pointR s).1.e)) 1 (.int .u64 (pointR s).1.r)
  simp only [List.setIfInBounds_toArray, List.set_cons_zero, List.set_cons_succ] at hP4
  refine bodyPost_ret (results_cell_row rfl _ _ P _ _ _ _ rfl hP4 Tryd.underlying33 rfl iPt) rfl ?_
  have hx4 : Ext (· = R) w w3 := (hx1.trans hx2 (fun _ _ x => x)).trans hx3 (fun _ _ x => x)
  exact ⟨rfl, (h3.far hPR hPB 0 _).far hPR hPB 1 _, (hx4.far (by omega) 0 _).far (by omega) 1 _⟩
/-! ## A function of the reader's with a variable of its own and a named result -/
theorem blk_sets {w : World} {P : Nat} {T : TypeId} {f : Nat × Nat} : ∀ (vs : List Value) (cs : Array Value) (o : Nat), w.heap[P]? = some (.cells cs T f) → (w.setCells P o vs).heap[P]? = some (.cells (setFrom cs o vs) T f)
  | [], _, _, h => h
  | v :: r, cs, o, h => by
    rw [World.setCells]
    exact blk_sets r _ _ (blk_set h o v)
theorem RS.fars {s : Rd} {P : Nat} (hP : P ≠ R) (hl : B ≤ P) : ∀ (vs : List Value) (o : Nat) {w : World}, RS B R A n c bs w s → RS B R A n c bs (w.setCells P o vs) s
  | [], _, _, h => h
  | v :: r, o, _, h => by
    rw [World.setCells]
    exact RS.fars hP hl r _ (h.far hP hl o v)
theorem Ext.fars {w : World} {F : Nat → Prop} {P : Nat} (hl : w.heap.size ≤ P) : ∀ (vs : List Value) (o : Nat) {w' : World}, Ext F w w' → Ext F w (w'.setCells P o vs)
  | [], _, _, h => h
  | v :: r, o, _, h => by
    rw [World.setCells]
    exact Ext.fars hl r _ (h.far hl o v)
structure Lo (B R : Nat) (A : Option Addr) (n c : Nat) (bs : List Int) (w0 : World) (T : TypeId) (P V : Nat) (zs : List Value) (w : World) (s : Rd) (vs : List Value) : Prop where
  rs : RS B R A n c bs w s
  p : w.heap[P]? = some (.cells zs.toArray T (0, 0))
  v : w.heap[V]? = some (.cells vs.toArray T (0, 0))
  pv : P < V
  p0 : w0.heap.size ≤ P
  r0 : R < w0.heap.size
  b0 : B ≤ w0.heap.size
  ext : Ext (· = R) w0 w
section
variable {w0 w w' : World} {T : TypeId} {P V : Nat} {zs vs : List Value} {s s' : Rd}
theorem Lo.call (h : Lo B R A n c bs w0 T P V zs w s vs) (h' : RS B R A n c bs w' s') (hx : Ext (· = R) w w') : Lo B R A n c bs w0 T P V zs w' s' vs :=
  ⟨h', blk_ext h.p hx (by have := h.r0; have := h.p0; show ¬ P = R; omega), blk_ext h.v hx (by have := h.r0; have := h.p0; have := h.pv; show ¬ V = R; omega), h.pv, h.p0, h.r0, h.b0, h.ext.trans hx (fun _ _ x => x)⟩
theorem Lo.below (h : Lo B R A n c bs w0 T P V zs w s vs) (hb : Below w.heap.size w w') : Lo B R A n c bs w0 T P V zs w' s vs :=
  h.call (h.rs.below hb) (Ext.of_below hb)
theorem Lo.set (h : Lo B R A n c bs w0 T P V zs w s vs) (i : Nat) (u : Value) : Lo B R A n c bs w0 T P V zs (w.setCell ⟨V, i, none⟩ u) s (vs.set i u) :=
  ⟨h.rs.far (by have := h.r0; have := h.p0; have := h.pv; omega) (by have := h.b0; have := h.p0; have := h.pv; omega) i u, blk_far h.p (by have := h.pv; show P ≠ V; omega) u, by simpa using blk_set h.v i u, h.pv, h.p0, h.r0, h.b0,
   h.ext.far (by have := h.p0; have := h.pv; omega) i u⟩
theorem Lo.cell (h : Lo B R A n c bs w0 T P V zs w s vs) (i : Nat) : w.cell? ⟨V, i, none⟩ = vs[i]? := by rw [blk_cell h.v]; simp
theorem Lo.frozen (h : Lo B R A n c bs w0 T P V zs w s vs) (i : Nat) : w.frozen? ⟨V, i, none⟩ = false := blk_frozen h.v i
theorem Lo.pcell (h : Lo B R A n c bs w0 T P V zs w s vs) (i : Nat) : w.cell? ⟨P, i, none⟩ = zs[i]? := by rw [blk_cell h.p]; simp
theorem Lo.pfrozen (h : Lo B R A n c bs w0 T P V zs w s vs) (i : Nat) : w.frozen? ⟨P, i, none⟩ = false := blk_frozen h.p i
theorem Lo.out (h : Lo B R A n c bs w0 T P V zs w s vs) (us : List Value) (hu : us.length = zs.length) : (w.setCells P 0 us).heap[P]? = some (.cells us.toArray T (0, 0)) ∧ RS B R A n c bs (w.setCells P 0 us) s ∧ Ext (· = R) w0 (w.setCells P 0 us) := by
  have h1 := blk_sets us _ 0 h.p
  rw [setFrom_all us _ (by simpa using hu)] at h1
  exact ⟨h1, h.rs.fars (by have := h.r0; have := h.p0; omega) (by have := h.b0; have := h.p0; omega) us 0, Ext.fars h.p0 us 0 h.ext⟩
end
theorem Lo.there {w0 w : World} {T : TypeId} {P V : Nat} {zs vs : List Value} {s : Rd} (h : Lo B R A n c bs w0 T P V zs w s vs) (us : Array Value) (hu : us.size = zs.length) : w.there P 0 us.size := fun j hj => by
  rw [Nat.zero_add, h.pcell, h.pfrozen, List.getElem?_eq_getElem (by omega)]
  exact ⟨rfl, rfl⟩
theorem Lo.range {w0 w : World} {T : TypeId} {P V : Nat} {zs vs : List Value} {s : Rd} (h : Lo B R A n c bs w0 T P V zs w s vs) : w.rangeAt V 0 vs := fun j v hj => by rw [Nat.zero_add, h.cell]; exact hj
theorem Ext.sets {w : World} {F : Nat → Prop} {P : Nat} (hP : F P) : ∀ (vs : List Value) (o : Nat) {w' : World}, Ext F w w' → Ext F w (w'.setCells P o vs)
  | [], _, _, h => h
  | v :: r, o, _, h => by
    rw [World.setCells]
    exact Ext.sets hP r _ (h.setCell (.inl hP) v)
theorem own_sets {w : World} {base k size : Nat} {e T : TypeId} {v : Value} {xs : List Value} (h : w.ownsRow base e size v k xs) {P : Nat} {cs : Array Value} (hP : w.heap[P]? = some (.cells cs T (0, 0))) (hne : e ≠ T) (us : List Value) : (w.setCells P 0 us).ownsRow base e size v k xs :=
  own_ext h (Ext.sets (F := (· = P)) rfl us 0 (Ext.refl _ w)) (fun i hi hi' => own_type_ne h hP hne (by rw [hi, hi']))
theorem own_fits {w : World} {base k size : Nat} {e : TypeId} {A : Option Addr} {n c : Nat} {xs : List Value} (h : w.ownsRow base e size (.slice A n c) k xs) : n = k ∧ Fits n c := by
  rcases h.2 with ⟨h1, h2⟩ | ⟨g, cap, cur, h1, _, _, h3, h4, _⟩
  · cases h1; exact ⟨h2.symm, Nat.le_refl _, Nat.zero_le _⟩
  · cases h1; exact ⟨rfl, h3, Nat.le_trans h3 h4⟩
theorem Lo.grown {w0 w w' : World} {T : TypeId} {P V : Nat} {zs vs : List Value} {s : Rd} (h : Lo B R A n c bs w0 T P V zs w s vs) {e : TypeId} {size k : Nat} {v : Value} {xs : List Value} (ho : w.ownsRow w0.heap.size e size v k xs) (hne : e ≠ T) (hg : w.grownBy w' v.ownBlock) : Lo B R A n c bs w0 T P V zs w' s vs := by
  have hr := h.r0
  have hb := h.b0
  exact ⟨h.rs.ext (F := fun i => some i = v.ownBlock) ((Ext.refl _ w).grown hg (fun i hi => .inl hi.symm)) (fun e => by have := own_base ho R e.symm; omega) (fun i hi => .inr (by have := own_base ho i hi.symm; omega)),
    blk_app h.p ho hne hg, blk_app h.v ho hne hg, h.pv, h.p0, h.r0, h.b0, h.ext.grown hg (fun i hi => .inr (own_base ho i hi))⟩
theorem RS.badc {w : World} {s : Rd} (h : RS B R A n c bs w s) : w.cell? ⟨R, 2, none⟩ = some (.bool s.bad) := by
  obtain ⟨_, _, _, _, _, p, q, hq, h5, h6, h7⟩ := h
  exact blk_cell h7 2
theorem RS.range {w : World} {s : Rd} (h : RS B R A n c bs w s) : ∀ x ∈ s.rem, 0 ≤ x ∧ x ≤ 18446744073709551615 := by
  obtain ⟨_, _, hb, _, _, p, q, hq, h5, h6, h7⟩ := h
  intro x hx
  rw [← h5] at hx
  obtain ⟨p', _, rfl⟩ := List.mem_map.1 (List.mem_of_mem_drop hx)
  exact val8_le hb _
theorem smallR_range {s : Rd} {m : Int} (hm : 0 ≤ m) (h : ∀ x ∈ s.rem, 0 ≤ x ∧ x ≤ 18446744073709551615) : 0 ≤ (smallR m s).1 ∧ (smallR m s).1 ≤ m := by
  obtain ⟨r, b⟩ := s
  cases b
  · cases r with
    | nil => simpa [smallR] using hm
    | cons x r =>
      have := h x (by simp)
      by_cases hx : x ≤ m
      · rw [smallR_ok hx]; exact ⟨this.1, hx⟩
      · simpa [smallR, hx] using hm
  · rw [smallR_bad]; exact ⟨Int.le_refl _, hm⟩
theorem loopR_step {α : Type} {f : Rd → α × Rd} {k : Nat} {s : Rd} (hb : s.bad = false) : loopR f (k + 1) s = ((f s).1 :: (loopR f k (f s).2).1, (loopR f k (f s).2).2) := by simp [loopR, hb]
theorem loopR_end {α : Type} {f : Rd → α × Rd} {k : Nat} {s : Rd} (hb : s.bad = true) : loopR f k s = ([], s) := by cases k <;> simp [loopR, hb]
/-- The start: the named result is laid, and the variable is laid and set. -/
theorem Lo.start {w0 : World} {s : Rd} (h : RS B R A n c bs w0 s) (T : TypeId) (zs : List Value) {w1 : World} {s1 : Rd} (h1 : RS B R A n c bs w1 s1) (hx : Ext (· = R) (w0.alloc (.cells zs.toArray T)) w1) (vs : List Value) :
    Lo B R A n c bs w0 T w0.heap.size w1.heap.size zs (w1.alloc (.cells vs.toArray T)) s1 vs := by
  have hs := hx.size
  have hs' : w0.heap.size < w1.heap.size := by simp at hs; omega
  have hr := h.lt
  have hb := below_alloc (Below.refl w1.heap.size w1) (.cells vs.toArray T)
  exact ⟨h1.below hb, blk_below (blk_ext (heap_new w0 _) hx (by show ¬ w0.heap.size = R; omega)) hb, heap_new w1 _, hs', Nat.le_refl _, hr, h.lo, (((Ext.refl _ _).alloc _).trans hx (fun _ _ x => x)).alloc _⟩
set_option maxHeartbeats 1000000 in
set_option maxRecDepth 100000 in
theorem rvote_calls (w : World) (s : Rd) (h : RS B R A n c bs w s) :
    Calls Tryd.prog 17 #[.pointer (some ⟨R, 0, none⟩)] w fun e w' => ∃ v A' c',
      v = (voteR s).1 ∧ e = .returned (.agg #[.int .i64 v.slot, .int .u64 v.head, .int .i64 v.src.e, .int .u64 v.src.r, .int .i64 v.tgt.e, .int .u64 v.tgt.r, .slice A' v.who.length c']) ∧ w'.ownsRow w.heap.size 3 1 (.slice A' v.who.length c') v.who.length (v.who.map (Value.int .i64)) ∧ RS B R A n c bs w' (voteR s).2 ∧ Ext (· = R) w w' := by
  obtain ⟨B0, HB0, hB1, hB2⟩ := size_hid w
  have hlo := fun (zs : List Value) (T : TypeId) {w1 : World} {s1 : Rd} (h1 : RS B R A n c bs w1 s1) (hx : Ext (· = R) (w.alloc (.cells zs.toArray T)) w1) => Lo.start h T zs h1 hx
  rw [HB0.out] at hlo ⊢
  go_enter Tryd.func17, Tryd.ntmps17
  go_upto_region 2 with (first
    | (go_at_call 15; refine (rsmall_calls _ s _ (h.below (below_alloc (Below.refl _ _) _)) (by decide) (by decide)).mono ?_; rintro e w2 ⟨rfl, h2, hx2⟩)
    | (refine wpList_box 36 3 _ (.tmp 7) [.int .i64 (smallR 1099511627776 s).1, .int .u64 0, .int .i64 0, .int .u64 0, .int .i64 0, .int .u64 0, .slice none 0 0] rfl rfl rfl zVt rfl rfl iVt rfl ?_))
  have hL := hlo [.int .i64 0, .int .u64 0, .int .i64 0, .int .u64 0, .int .i64 0, .int .u64 0, .slice none 0 0] 36 h2 hx2 [.int .i64 (smallR 1099511627776 s).1, .int .u64 0, .int .i64 0, .int .u64 0, .int .i64 0, .int .u64 0, .slice none 0 0]
  clear h2 hx2 hlo
  rw [HB0.out]
  generalize w2.heap.size = V at hL ⊢
  generalize w2.alloc _ = W3 at hL ⊢
  go_upto_region 3 with (go_at_call 25; refine (rroot_calls _ _ hL.rs).mono ?_; rintro e w4 ⟨rfl, h4, hx4⟩; have hL4 := hL.call h4 hx4; have k1 := hL4.cell 1; have f1 := hL4.frozen 1)
  have hL5 := hL4.set 1 (.int .u64 (rootR (smallR 1099511627776 s).2).1)
  simp only [List.set_cons_succ, List.set_cons_zero] at hL5
  generalize World.setCell _ _ _ = W5 at hL5 ⊢
  clear hL hL4 k1 f1 h4 hx4
  go_upto_region 4 with (go_at_call 26; refine (rpoint_calls _ _ hL5.rs).mono ?_; rintro e w6 ⟨rfl, h6, hx6⟩; have hL6 := hL5.call h6 hx6; have k2 := hL6.cell 2; have f2 := hL6.frozen 2; have k3 := hL6.cell 3; have f3 := hL6.frozen 3)
  have hL7 := (hL6.set 2 (.int .i64 (pointR (rootR (smallR 1099511627776 s).2).2).1.e)).set 3 (.int .u64 (pointR (rootR (smallR 1099511627776 s).2).2).1.r)
  simp only [List.set_cons_succ, List.set_cons_zero] at hL7
  generalize World.setCell (World.setCell _ _ _) _ _ = W7 at hL7 ⊢
  clear hL5 hL6 k2 f2 k3 f3 h6 hx6
  go_upto_region 5 with (go_at_call 26; refine (rpoint_calls _ _ hL7.rs).mono ?_; rintro e w8 ⟨rfl, h8, hx8⟩; have hL8 := hL7.call h8 hx8; have k4 := hL8.cell 4; have f4 := hL8.frozen 4; have k5 := hL8.cell 5; have f5 := hL8.frozen 5)
  have hL9 := (hL8.set 4 (.int .i64 (pointR (pointR (rootR (smallR 1099511627776 s).2).2).2).1.e)).set 5 (.int .u64 (pointR (pointR (rootR (smallR 1099511627776 s).2).2).2).1.r)
  simp only [List.set_cons_succ, List.set_cons_zero] at hL9
  generalize World.setCell (World.setCell _ _ _) _ _ = W9 at hL9 ⊢
  clear hL7 hL8 k4 f4 k5 f5 h8 hx8
  obtain ⟨d, hd⟩ : ∃ d, d = (pointR (pointR (rootR (smallR 1099511627776 s).2).2).2).2 := ⟨_, rfl⟩
  rw [← hd] at hL9
  have HD := Lib.hid hd
  clear hd
  have hr := smallR_range (m := 4096) (by decide) hL9.rs.range
  go_wp2_with (go_at_call 15; refine (rsmall_calls _ _ _ hL9.rs (by decide) (by decide)).mono ?_; rintro e w10 ⟨rfl, h10, hx10⟩; have hL10 := hL9.call h10 hx10)
  have hd := HD.out
  clear hL9 h10 hx10
  obtain ⟨x, hx⟩ : ∃ x, x = (smallR 4096 d).1 := ⟨_, rfl⟩
  rw [← hx] at hr ⊢
  obtain ⟨k0, hk0⟩ := Int.eq_ofNat_of_zero_le hr.1
  have hk : k0 ≤ 4096 := by omega
  obtain ⟨WL, hWL⟩ : ∃ WL, WL = loopR (smallR 4095) k0 (smallR 4096 d).2 := ⟨_, rfl⟩
  have HV : Hid (voteR s = (⟨(smallR 1099511627776 s).1, (rootR (smallR 1099511627776 s).2).1, (pointR (rootR (smallR 1099511627776 s).2).2).1, (pointR (pointR (rootR (smallR 1099511627776 s).2).2).2).1, WL.1⟩, WL.2)) := by
    show _ = _
    rw [hWL, voteR]
    simp only [← hd, ← hx, hk0, Int.toNat_natCast]
  subst hk0
  generalize (smallR 1099511627776 s).1 = va at hL10 HV ⊢
  generalize (rootR (smallR 1099511627776 s).2).1 = vb at hL10 HV ⊢
  generalize (pointR (rootR (smallR 1099511627776 s).2).2).1 = vc at hL10 HV ⊢
  generalize (pointR (pointR (rootR (smallR 1099511627776 s).2).2).2).1 = vd at hL10 HV ⊢
  have HW := Lib.hid hWL
  clear hWL hd hx hr HD
  go_loopw [4] (fun i wr => ∃ (k : Nat) (acc : List Int) (s' : Rd) (Aw : Option Addr) (cw : Nat), i = .int .i64 k ∧ acc.length + k ≤ 4096 ∧ Hid (acc ++ (loopR (smallR 4095) k s').1 = WL.1 ∧ (loopR (smallR 4095) k s').2 = WL.2) ∧ wr.ownsRow B0 3 1 (.slice Aw acc.length cw) acc.length (acc.map (Value.int .i64)) ∧ Lo B R A n c bs w 36 B0 V [.int .i64 0, .int .u64 0, .int .i64 0, .int .u64 0, .int .i64 0, .int .u64 0, .slice none 0 0] wr s' [.int .i64 va, .int .u64 vb, .int .i64 vc.e, .int .u64 vc.r, .int .i64 vd.e, .int .u64 vd.r, .slice Aw acc.length cw]) (fun i _ => (intOf i).toNat)
  case atStart => exact ⟨k0, [], _, none, 0, rfl, by simpa using hk, by show _ ∧ _; rw [HW.out]; exact ⟨rfl, rfl⟩, own_nil _ _ _ _, hL10⟩
  case round =>
    clear hL10
    obtain ⟨k, acc, s', Aw, cw, rfl, hk2, HI, ho, hL⟩ := hrel
    have hbad := hL.rs.badc
    cases k with
    | zero =>
      go_wp2_with (first
        | (refine wpList_load_mid rfl 36 _ rfl _ _ rfl [.int .i64 va, .int .u64 vb, .int .i64 vc.e, .int .u64 vc.r, .int .i64 vd.e, .int .u64 vd.r, .slice Aw acc.length cw] _ hL.range Tryd.underlying36 rfl iVt ?_)
        | (refine wpList_store_mid rfl 36 (.tmp 2) (.tmp 37) rfl B0 0 #[.int .i64 va, .int .u64 vb, .int .i64 vc.e, .int .u64 vc.r, .int .i64 vd.e, .int .u64 vd.r, .slice Aw acc.length cw] rfl rfl (hL.there _ rfl) iVt (all_oneCell_toArray (by simp [Value.oneCell'])) ?_))
      obtain ⟨o1, o2, o3⟩ := hL.out [.int .i64 va, .int .u64 vb, .int .i64 vc.e, .int .u64 vc.r, .int .i64 vd.e, .int .u64 vd.r, .slice Aw acc.length cw] rfl
      try simp only [Exit.inBlock, Exit.then]
      refine bodyPost_ret (results_cell_row rfl _ _ B0 _ _ _ _ rfl o1 Tryd.underlying36 rfl iVt) rfl ?_
      have he := HI.out
      rw [show loopR (smallR 4095) 0 s' = ([], s') from rfl, List.append_nil] at he
      rw [HV.out, ← he.1, ← he.2]
      exact ⟨⟨va, vb, vc, vd, acc⟩, Aw, cw, rfl, rfl, own_sets ho hL.p (by decide) _, o2, o3⟩
    | succ k =>
      cases hb : s'.bad with
      | true =>
        rw [hb] at hbad
        go_wp2_with (first
          | (refine wpList_load_mid rfl 36 _ rfl _ _ rfl [.int .i64 va, .int .u64 vb, .int .i64 vc.e, .int .u64 vc.r, .int .i64 vd.e, .int .u64 vd.r, .slice Aw acc.length cw] _ hL.range Tryd.underlying36 rfl iVt ?_)
          | (refine wpList_store_mid rfl 36 (.tmp 2) (.tmp 37) rfl B0 0 #[.int .i64 va, .int .u64 vb, .int .i64 vc.e, .int .u64 vc.r, .int .i64 vd.e, .int .u64 vd.r, .slice Aw acc.length cw] rfl rfl (hL.there _ rfl) iVt (all_oneCell_toArray (by simp [Value.oneCell'])) ?_))
        obtain ⟨o1, o2, o3⟩ := hL.out [.int .i64 va, .int .u64 vb, .int .i64 vc.e, .int .u64 vc.r, .int .i64 vd.e, .int .u64 vd.r, .slice Aw acc.length cw] rfl
        try simp only [Exit.inBlock, Exit.then]
        refine bodyPost_ret (results_cell_row rfl _ _ B0 _ _ _ _ rfl o1 Tryd.underlying36 rfl iVt) rfl ?_
        have he := HI.out
        rw [loopR_end hb, List.append_nil] at he
        rw [HV.out, ← he.1, ← he.2]
        exact ⟨⟨va, vb, vc, vd, acc⟩, Aw, cw, rfl, rfl, own_sets ho hL.p (by decide) _, o2, o3⟩
      | false =>
        rw [hb] at hbad
        go_upto_region 8 with fail
        have hRV : R < B0 ∧ B0 < V := ⟨by have := hL.r0; omega, hL.pv⟩
        have kw : wr.cell? ⟨V, 6, none⟩ = some (.slice Aw acc.length cw) := hL.cell 6
        have tok1 : True := trivial
        have hst := loopR_step (f := smallR 4095) (k := k) hb
        have HST := Lib.hid hst
        clear hst hbad
        go_region_law (first
          | (go_simp; go_at_call 15; have _t := tok1; refine (rsmall_calls _ s' _ (hL.rs.below (Below.refl _ _).drew) (by decide) (by decide)).mono ?_; rintro e w2 ⟨rfl, h2, hx2⟩; have hL2 := (hL.below (Below.refl _ _).drew).call h2 hx2; have kw2a : (w2.alloc (.cells #[.int .i64 (smallR 4095 s').1] 3)).cell? ⟨V, 6, none⟩ = some (.slice Aw acc.length cw) := (hL2.below (below_alloc (Below.refl _ _) _)).cell 6; have kw2 : w2.cell? ⟨V, 6, none⟩ = some (.slice Aw acc.length cw) := hL2.cell 6; have ho2 := own_ext (own_below ho (Below.refl _ _).drew) hx2 (fun k hk e => by have := own_base ho k hk; omega); clear _t tok1)
          | (refine step_app B0 (by rfl) (.tmp 31) (.tmp 34) 34 3 (.int .i64 0) 1 8 (by rfl) Tryd.underlying34 infoI64 rfl (by decide) _ acc.length _ (by rfl) (World.ownsRow.alloc ho2 _) (some ⟨w2.heap.size, 0, none⟩) 1 1 [.int .i64 (smallR 4095 s').1] (by rfl) rfl (Flat.one _ _ _) (by simp [Value.oneCell']) (by omega) (by omega) (by have := hL2.ext.size; have := hB2; simp; omega) ?_; intro A6 c6 w3 ho3 hg3 _; have hL3 := (hL2.below (below_alloc (Below.refl _ _) _)).grown (by rw [HB0.out]; exact World.ownsRow.alloc ho2 _) (by decide) hg3; have kw3 := hL3.cell 6; have fw3 := hL3.frozen 6))
        all_goals
          go_wp2
          go_roundw
          case rel =>
            have hL4 := hL3.set 6 (.slice A6 (acc.length + 1) c6)
            simp only [List.set_cons_succ, List.set_cons_zero] at hL4
            refine ⟨k, acc ++ [(smallR 4095 s').1], (smallR 4095 s').2, A6, c6, by go_num, by simp; omega, ?_, ?_, ?_⟩
            · show _ ∧ _
              have := HI.out
              rw [HST.out] at this
              simpa using this
            · have := own_ext ho3 ((Ext.refl (· = V) w3).setCell (p := ⟨V, 6, none⟩) (.inl rfl) (.slice A6 (acc.length + 1) c6)) (fun k hk e => own_type_ne ho3 hL3.v (by decide) (by rw [hk, e]))
              simpa using this
            · simpa using hL4
          case measure => simp [intOf]
end Go.Proofs.YtccficljaomhhaaDoor
