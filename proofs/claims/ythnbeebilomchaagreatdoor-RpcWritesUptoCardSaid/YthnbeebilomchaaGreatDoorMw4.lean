/- What params tell: walked, all kinds but the changes. What params tell: what is cancelled; walked. What params tell: the changes; walked. rpc.Read: walked. slices.Equal at edits: walked. rpc.same: walked. A call's params as a value: walked, all kinds but the changes. A call's params as a value: the changes; walked. -/
import Derived.Test.YthnbeebilomchaaGreatDoorMw3
import Derived.Deep.RegionHeld3
import Derived.Deep.CutRange
import Derived.Test.YthnbeebilomchaaGreatDoorMw2
namespace Go.Proofs.YthnbeebilomchaaGreatDoor
open Go Go.RowKit

theorem setRow_blk {w : World} {g : Nat} {cur cs : Array Value} {T : TypeId} (h : Blk w g cur T) : Blk (w.setRow g cs) g cs T := setRow_heap w g cur cs T _ h
theorem setRow_far {w : World} {g k : Nat} {cs : Array Value} (h : k ≠ g) : (w.setRow g cs).heap[k]? = w.heap[k]? := setRow_other w g k cs h
theorem grown_row {w w' : World} {row : Option Nat} (h : w.grownBy w' row) {g : Nat} (hg : w.heap.size ≤ g) (cs : Array Value) : w.grownBy (w'.setRow g cs) row :=
  ⟨h.os, h.tape, h.output, by have := h.size; simp [World.setRow]; exact this, fun k hk hne => (setRow_far (by omega)).trans (h.block k hk hne)⟩
theorem call_size : (Tryz.prog.info? 43).map (·.size) = some 19 := by kernel_rfl
theorem call_under : ∃ fs, Tryz.prog.underlying 43 = some (.struct fs) := by
  have h : (match Tryz.prog.underlying 43 with | some (.struct _) => true | _ => false) = true := by kernel_rfl
  cases hq : Tryz.prog.underlying 43 with
  | none => rw [hq] at h; cases h
  | some d => cases d <;> (rw [hq] at h; first | (cases h; done) | exact ⟨_, rfl⟩)
theorem cdC_one (c : CD) : (cdC c).all (·.oneCell') = true := by simp [cdC, Value.oneCell']
theorem load_call {ops : Array Oper} {rest : List Oper} {o : Oper} {a : Act} {w : World} {Q : Exit → Act → World → Prop} (hgd : o.guard = none) (x : Operand) (ho : o.op = .load 43 x) (g : Nat) (hx : a.eval x = .pointer (some ⟨g, 0, none⟩)) (c : CD) (hg : Blk w g (cdC c) 43)
    (h : wpList Tryz.prog ops Q rest (a.put o.dst (.agg (cdC c))) w) : wpList Tryz.prog ops Q (o :: rest) a w := by
  obtain ⟨fs, h1⟩ := call_under
  exact wpList_load_row hgd _ x ho g hx _ _ _ _ hg h1 rfl call_size h
theorem store_call {ops : Array Oper} {rest : List Oper} {o : Oper} {a : Act} {w : World} {Q : Exit → Act → World → Prop} (hgd : o.guard = none) (x y : Operand) (ho : o.op = .store 43 x y) (g : Nat) (c c' : CD) (hx : a.eval x = .pointer (some ⟨g, 0, none⟩)) (hy : a.eval y = .agg (cdC c)) (hg : Blk w g (cdC c') 43)
    (h : wpList Tryz.prog ops Q rest (a.put o.dst undef) (w.setRow g (cdC c))) : wpList Tryz.prog ops Q (o :: rest) a w :=
  wpList_store_row hgd _ x y ho g _ hx hy _ _ hg call_size rfl (cdC_one c) h
theorem tell_end {W : World} {tm : Array Value} {R : Ending → World → Prop} {g : Nat} {c : CD} (h2 : tm.getD 4 undef = .pointer (some ⟨g, 0, none⟩)) (hB : Blk W g (cdC c) 43)
    (hR : R (.returned (.agg (cdC c))) W) : bodyPost Tryz.prog Tryz.f48 R .ret { tmps := tm, defers := [] } W := by
  obtain ⟨fs, h1⟩ := call_under
  exact bodyPost_ret (v := .agg (cdC c)) (results_cell_row Tryz.results48 tm W g _ _ _ _ h2 hB h1 rfl call_size) rfl hR
theorem TlS.fin {w : World} {P : Nat → Prop} {pb : Nat} {d : VD} {m : Bool} {c : CD} {W : World} {r : Option C} (h : TlS w P pb d m c W) (hm : m = r.isNone) (hk : 0 ≤ c.kind) (hc : ∀ y, r = some y → c.k = y) :
    TellE w P pb d r (.returned (.agg (cdC c))) (W.setRow (w.heap.size + 1) (cdC c)) := by
  have h1 := h.pbl
  have q0 : pb ≠ w.heap.size + 1 := by omega
  have qv : ∀ {y : VD}, ValAt W (PP w P pb) y → ValAt (W.setRow (w.heap.size + 1) (cdC c)) (fun g => P g ∨ w.heap.size ≤ g) y := fun hy => (hy.congr fun g h2 h3 => setRow_far (by have := h2.1.1; omega)).mono fun _ h2 _ => .inl h2.2
  refine ⟨by rw [← hm]; exact (setRow_far q0).trans h.pblk, grown_row h.grown (by omega) _, c, rfl, ⟨qv h.id, qv h.other, h.own.row.congr fun g h2 h3 h4 => setRow_far (fun e => ?_), fun g _ h3 => .inr (by have := h.own.base h3; omega)⟩, hk, hc⟩
  have := h.own.base h3
  omega
set_option maxHeartbeats 4000000 in
set_option maxRecDepth 20000 in
theorem tell_1 (P : Nat → Prop) (pb : Nat) (d x : VD) (w : World) (hB : Blk w pb (prC d false) 96) (hv : ValAt w (fun g => g ≠ pb ∧ P g) d) (hx : ValAt w (fun g => g ≠ pb ∧ P g) x) (hs : sizeV d.v ≤ 1048576) :
  Calls Tryz.prog 48 #[.pointer (some ⟨pb, 0, none⟩), .agg (cdC (ofCD 1 x))] w (TellE w P pb d (tellL 1 x.v d.v)) := by
 obtain ⟨W0, hW0⟩ : ∃ W0, W0 = (w.alloc (.cells (cdC (ofCD 1 x)) 43)).alloc (.cells #[.int .i64 0, .int .i64 0, .bool false, .int .i64 0, .string { data := #[] }, .slice none 0 0, .slice none 0 0, .string { data := #[] }, .int .i64 0, .string { data := #[] }, .slice none 0 0, .int .i64 0, .int .i64 0, .int .i64 0, .bool false, .int .i64 0, .string { data := #[] }, .slice none 0 0, .slice none 0 0] 43) := ⟨_, rfl⟩
 have hb0 : Below w.heap.size w W0 := by rw [hW0]; exact (below_a1 w _).alloc (by simp) _
 have HS0 : Hid (TlS w P pb d false (ofCD 1 x) W0) := Lib.hid ⟨hB.ext hb0, by rw [hW0]; exact (Blk.new rfl).alloc _, by rw [hW0]; exact Blk.new (by simp), grown_of hb0, hB.lt, (hv.mono fun g h1 h2 => ⟨⟨h2, h1.1⟩, h1.2⟩).ext hb0, (hx.mono fun g h1 h2 => ⟨⟨h2, h1.1⟩, h1.2⟩).ext hb0, .leaf, Own.nil _ _ _ _⟩
 have HSZ := Lib.hid hs
 have c0 : W0.cell? ⟨w.heap.size, 0, none⟩ = some (.int .i64 1) := HS0.out.cblk.cell 0
 clear hB hv hx hs hb0
 go_enter Tryz.func48, Tryz.ntmps48
 go_upto_region 1 with (fail)
 rw [← hW0]
 clear hW0
 go_wp2_with (first | ((with_reducible show wpList _ _ _ (⟨some 13, _, _, _, _, _⟩ :: _) _ _); refine load_call rfl _ rfl w.heap.size rfl (ofCD 1 x) HS0.out.cblk ?_) | ((with_reducible show wpList _ _ _ (⟨none, Op.store 43 _ _, _, _, _, _⟩ :: _) _ _); refine store_call rfl _ _ rfl (w.heap.size + 1) (ofCD 1 x) zeroCD rfl rfl HS0.out.rblk ?_))
 exact tell_end (g := w.heap.size + 1) rfl (setRow_blk HS0.out.rblk) (HS0.out.fin rfl (by show (0 : Int) ≤ 1; decide) (fun y hy => by cases hy; rfl))
set_option maxHeartbeats 4000000 in
set_option maxRecDepth 20000 in
theorem tell_2 (P : Nat → Prop) (pb : Nat) (d x : VD) (w : World) (hB : Blk w pb (prC d false) 96) (hv : ValAt w (fun g => g ≠ pb ∧ P g) d) (hx : ValAt w (fun g => g ≠ pb ∧ P g) x) (hs : sizeV d.v ≤ 1048576) :
  Calls Tryz.prog 48 #[.pointer (some ⟨pb, 0, none⟩), .agg (cdC (ofCD 2 x))] w (TellE w P pb d (tellL 2 x.v d.v)) := by
 obtain ⟨W0, hW0⟩ : ∃ W0, W0 = (w.alloc (.cells (cdC (ofCD 2 x)) 43)).alloc (.cells #[.int .i64 0, .int .i64 0, .bool false, .int .i64 0, .string { data := #[] }, .slice none 0 0, .slice none 0 0, .string { data := #[] }, .int .i64 0, .string { data := #[] }, .slice none 0 0, .int .i64 0, .int .i64 0, .int .i64 0, .bool false, .int .i64 0, .string { data := #[] }, .slice none 0 0, .slice none 0 0] 43) := ⟨_, rfl⟩
 have hb0 : Below w.heap.size w W0 := by rw [hW0]; exact (below_a1 w _).alloc (by simp) _
 have HS0 : Hid (TlS w P pb d false (ofCD 2 x) W0) := Lib.hid ⟨hB.ext hb0, by rw [hW0]; exact (Blk.new rfl).alloc _, by rw [hW0]; exact Blk.new (by simp), grown_of hb0, hB.lt, (hv.mono fun g h1 h2 => ⟨⟨h2, h1.1⟩, h1.2⟩).ext hb0, (hx.mono fun g h1 h2 => ⟨⟨h2, h1.1⟩, h1.2⟩).ext hb0, .leaf, Own.nil _ _ _ _⟩
 have HSZ := Lib.hid hs
 have c0 : W0.cell? ⟨w.heap.size, 0, none⟩ = some (.int .i64 2) := HS0.out.cblk.cell 0
 clear hB hv hx hs hb0
 go_enter Tryz.func48, Tryz.ntmps48
 go_upto_region 1 with (fail)
 rw [← hW0]
 clear hW0
 go_wp2_with (first | ((with_reducible show wpList _ _ _ (⟨some 13, _, _, _, _, _⟩ :: _) _ _); refine load_call rfl _ rfl w.heap.size rfl (ofCD 2 x) HS0.out.cblk ?_) | ((with_reducible show wpList _ _ _ (⟨none, Op.store 43 _ _, _, _, _, _⟩ :: _) _ _); refine store_call rfl _ _ rfl (w.heap.size + 1) (ofCD 2 x) zeroCD rfl rfl HS0.out.rblk ?_))
 exact tell_end (g := w.heap.size + 1) rfl (setRow_blk HS0.out.rblk) (HS0.out.fin rfl (by show (0 : Int) ≤ 2; decide) (fun y hy => by cases hy; rfl))
set_option maxHeartbeats 4000000 in
set_option maxRecDepth 20000 in
theorem tell_3 (P : Nat → Prop) (pb : Nat) (d x : VD) (w : World) (hB : Blk w pb (prC d false) 96) (hv : ValAt w (fun g => g ≠ pb ∧ P g) d) (hx : ValAt w (fun g => g ≠ pb ∧ P g) x) (hs : sizeV d.v ≤ 1048576) :
  Calls Tryz.prog 48 #[.pointer (some ⟨pb, 0, none⟩), .agg (cdC (ofCD 3 x))] w (TellE w P pb d (tellL 3 x.v d.v)) := by
 obtain ⟨W0, hW0⟩ : ∃ W0, W0 = (w.alloc (.cells (cdC (ofCD 3 x)) 43)).alloc (.cells #[.int .i64 0, .int .i64 0, .bool false, .int .i64 0, .string { data := #[] }, .slice none 0 0, .slice none 0 0, .string { data := #[] }, .int .i64 0, .string { data := #[] }, .slice none 0 0, .int .i64 0, .int .i64 0, .int .i64 0, .bool false, .int .i64 0, .string { data := #[] }, .slice none 0 0, .slice none 0 0] 43) := ⟨_, rfl⟩
 have hb0 : Below w.heap.size w W0 := by rw [hW0]; exact (below_a1 w _).alloc (by simp) _
 have HS0 : Hid (TlS w P pb d false (ofCD 3 x) W0) := Lib.hid ⟨hB.ext hb0, by rw [hW0]; exact (Blk.new rfl).alloc _, by rw [hW0]; exact Blk.new (by simp), grown_of hb0, hB.lt, (hv.mono fun g h1 h2 => ⟨⟨h2, h1.1⟩, h1.2⟩).ext hb0, (hx.mono fun g h1 h2 => ⟨⟨h2, h1.1⟩, h1.2⟩).ext hb0, .leaf, Own.nil _ _ _ _⟩
 have HSZ := Lib.hid hs
 have c0 : W0.cell? ⟨w.heap.size, 0, none⟩ = some (.int .i64 3) := HS0.out.cblk.cell 0
 clear hB hv hx hs hb0
 go_enter Tryz.func48, Tryz.ntmps48
 go_upto_region 1 with (fail)
 rw [← hW0]
 clear hW0
 go_wp2_with (first | ((with_reducible show wpList _ _ _ (⟨some 13, _, _, _, _, _⟩ :: _) _ _); refine load_call rfl _ rfl w.heap.size rfl (ofCD 3 x) HS0.out.cblk ?_) | ((with_reducible show wpList _ _ _ (⟨none, Op.store 43 _ _, _, _, _, _⟩ :: _) _ _); refine store_call rfl _ _ rfl (w.heap.size + 1) (ofCD 3 x) zeroCD rfl rfl HS0.out.rblk ?_))
 exact tell_end (g := w.heap.size + 1) rfl (setRow_blk HS0.out.rblk) (HS0.out.fin rfl (by show (0 : Int) ≤ 3; decide) (fun y hy => by cases hy; rfl))
theorem TlS.set {w : World} {P : Nat → Prop} {pb : Nat} {d : VD} {m : Bool} {c c' : CD} {W W' : World} (h : TlS w P pb d m c W) (hg : W.grownBy W' (some w.heap.size)) (hb : Blk W' w.heap.size (cdC c') 43) (hi : c'.id = c.id) (ho : ValAt W (PP w P pb) c'.other) (hch : c'.a = c.a ∧ c'.c = c.c ∧ c'.changes = c.changes) : TlS w P pb d m c' W' := by
 have h1 := h.pbl
 have q0 : some pb ≠ some w.heap.size := by simp; omega
 have qv : ∀ {y : VD}, ValAt W (PP w P pb) y → ValAt W' (PP w P pb) y := fun hy => hy.congr fun g h2 h3 => hg.block g h3 (by have := h2.1.1; simp; omega)
 refine ⟨h.pblk.grown hg q0, hb, h.rblk.grown hg (by simp), ⟨hg.os.trans h.grown.os, hg.tape.trans h.grown.tape, hg.output.trans h.grown.output, Nat.le_trans h.grown.size hg.size, fun k hk hne => (hg.block k (by have := h.grown.size; omega) (by simp; omega)).trans (h.grown.block k hk hne)⟩, h1, qv h.val, by rw [hi]; exact qv h.id, qv ho, ?_⟩
 rw [hch.1, hch.2.1, hch.2.2]
 refine h.own.kept hg ?_
 cases ha : blockOf c.a with
 | none => exact .inl rfl
 | some g => exact .inr (by have := h.own.base ha; simp; omega)
/-! ### what the kinds tell, plainly -/
theorem tl_name {k : Nat} {x p : V} (hk : k = 6 ∨ k = 8) : tellL k x p = (gText p [kDoc, kUri]).map fun n => { C.of k x with name := n } := by
  rcases hk with rfl | rfl <;> (unfold tellL; simp only [Nat.reduceLeDiff, if_false, Nat.reduceEqDiff]; cases gText p [kDoc, kUri] <;> rfl)
theorem tl_4 (x p : V) : tellL 4 x p = (gText p [kDoc, kUri]).bind fun name => (gNum p [kDoc, kVersion]).bind fun n => (gText p [kDoc, kText]).map fun t => { C.of 4 x with name := name, version := n, text := t } := rfl
theorem tl_7 (x p : V) : tellL 7 x p = (gText p [kDoc, kUri]).bind fun name => (gPlace p [kPosition]).map fun a => { C.of 7 x with name := name, pl := a.1, pu := a.2 } := rfl
theorem tl_9 (x p : V) : tellL 9 x p = if idOk ((getV p [kId]).getD .null) = true then some { C.of 9 x with other := (getV p [kId]).getD .null } else none := by
  have e : tellL 9 x p = (match getV p [kId] with | some y => if idOk y then some { C.of 9 x with other := y } else none | none => none) := rfl
  rw [e]
  cases getV p [kId] <;> rfl
set_option maxHeartbeats 4000000 in
set_option maxRecDepth 20000 in
theorem tell_6 (P : Nat → Prop) (pb : Nat) (d x : VD) (w : World) (hB : Blk w pb (prC d false) 96) (hv : ValAt w (fun g => g ≠ pb ∧ P g) d) (hx : ValAt w (fun g => g ≠ pb ∧ P g) x) (hs : sizeV d.v ≤ 1048576) :
  Calls Tryz.prog 48 #[.pointer (some ⟨pb, 0, none⟩), .agg (cdC (ofCD 6 x))] w (TellE w P pb d (tellL 6 x.v d.v)) := by
 obtain ⟨W0, hW0⟩ : ∃ W0, W0 = (w.alloc (.cells (cdC (ofCD 6 x)) 43)).alloc (.cells #[.int .i64 0, .int .i64 0, .bool false, .int .i64 0, .string { data := #[] }, .slice none 0 0, .slice none 0 0, .string { data := #[] }, .int .i64 0, .string { data := #[] }, .slice none 0 0, .int .i64 0, .int .i64 0, .int .i64 0, .bool false, .int .i64 0, .string { data := #[] }, .slice none 0 0, .slice none 0 0] 43) := ⟨_, rfl⟩
 have hb0 : Below w.heap.size w W0 := by rw [hW0]; exact (below_a1 w _).alloc (by simp) _
 have HS0 : Hid (TlS w P pb d false (ofCD 6 x) W0) := Lib.hid ⟨hB.ext hb0, by rw [hW0]; exact (Blk.new rfl).alloc _, by rw [hW0]; exact Blk.new (by simp), grown_of hb0, hB.lt, (hv.mono fun g h1 h2 => ⟨⟨h2, h1.1⟩, h1.2⟩).ext hb0, (hx.mono fun g h1 h2 => ⟨⟨h2, h1.1⟩, h1.2⟩).ext hb0, .leaf, Own.nil _ _ _ _⟩
 have HSZ := Lib.hid hs
 have c0 : W0.cell? ⟨w.heap.size, 0, none⟩ = some (.int .i64 6) := HS0.out.cblk.cell 0
 clear hB hv hx hs hb0
 go_enter Tryz.func48, Tryz.ntmps48
 go_upto_region 1 with (fail)
 rw [← hW0]
 clear hW0
 obtain ⟨n1, hn1⟩ : ∃ x, x = gText d.v [kDoc, kUri] := ⟨_, rfl⟩
 have Hn1 := Lib.hid hn1
 clear hn1
 go_wp2_with fail
 have HA1 := Lib.hid (HS0.out.ext (below_a1 W0 (.cells #[strV kDoc, strV kUri] 9)))
 refine (ptext_any pb d (false) (some ⟨W0.heap.size, 0, none⟩) 2 [kDoc, kUri] _ HA1.out.pblk HA1.out.vx (row_blk (Blk.new rfl) rfl) (by decide) HSZ.out).mono ?_
 rw [← Hn1.out]
 rintro e w1 ⟨rfl, hb1, hg1⟩
 have HC1 := Lib.hid (HA1.out.call hb1 hg1)
 clear hb1 hg1 HA1 HS0
 clear c0
 have c7 := HC1.out.cblk.cell 7
 have g7 := HC1.out.cblk.free 7
 unfold cdC at c7
 simp only [List.getElem?_toArray, List.getElem?_cons_zero, List.getElem?_cons_succ] at c7
 have HD1 := Lib.hid (HC1.out.put 7 (.string ⟨(n1.getD []).toArray⟩) (c' := { ofCD 6 x with name := n1.getD [] }) rfl rfl .leaf ⟨rfl, rfl, rfl⟩)
 rw [Bool.false_or] at HD1
 go_upto_region 11 with (fail)
 obtain ⟨W1, hW1⟩ : ∃ W1, W1 = w1.setCell ⟨w.heap.size, 7, none⟩ (.string ⟨(n1.getD []).toArray⟩) := ⟨_, rfl⟩
 rw [← hW1] at HD1 ⊢
 clear hW1 HC1
 clear c7 g7
 have c0 : W1.cell? ⟨w.heap.size, 0, none⟩ = some (.int .i64 6) := HD1.out.cblk.cell 0
 go_wp2_with (first | ((with_reducible show wpList _ _ _ (⟨some 80, _, _, _, _, _⟩ :: _) _ _); refine load_call rfl _ rfl w.heap.size rfl ({ ofCD 6 x with name := n1.getD [] }) HD1.out.cblk ?_) | ((with_reducible show wpList _ _ _ (⟨none, Op.store 43 _ _, _, _, _, _⟩ :: _) _ _); refine store_call rfl _ _ rfl (w.heap.size + 1) ({ ofCD 6 x with name := n1.getD [] }) zeroCD rfl rfl HD1.out.rblk ?_))
 exact tell_end (g := w.heap.size + 1) rfl (setRow_blk HD1.out.rblk) (HD1.out.fin (by rw [Hn1.out, tl_name (by decide)]; cases gText d.v [kDoc, kUri] <;> rfl) (by show (0 : Int) ≤ 6; decide) (fun y hy => by rw [tl_name (by decide), ← Hn1.out] at hy; cases n1 with | none => cases hy | some n => cases hy; rfl))
set_option maxHeartbeats 4000000 in
set_option maxRecDepth 20000 in
theorem tell_8 (P : Nat → Prop) (pb : Nat) (d x : VD) (w : World) (hB : Blk w pb (prC d false) 96) (hv : ValAt w (fun g => g ≠ pb ∧ P g) d) (hx : ValAt w (fun g => g ≠ pb ∧ P g) x) (hs : sizeV d.v ≤ 1048576) :
  Calls Tryz.prog 48 #[.pointer (some ⟨pb, 0, none⟩), .agg (cdC (ofCD 8 x))] w (TellE w P pb d (tellL 8 x.v d.v)) := by
 obtain ⟨W0, hW0⟩ : ∃ W0, W0 = (w.alloc (.cells (cdC (ofCD 8 x)) 43)).alloc (.cells #[.int .i64 0, .int .i64 0, .bool false, .int .i64 0, .string { data := #[] }, .slice none 0 0, .slice none 0 0, .string { data := #[] }, .int .i64 0, .string { data := #[] }, .slice none 0 0, .int .i64 0, .int .i64 0, .int .i64 0, .bool false, .int .i64 0, .string { data := #[] }, .slice none 0 0, .slice none 0 0] 43) := ⟨_, rfl⟩
 have hb0 : Below w.heap.size w W0 := by rw [hW0]; exact (below_a1 w _).alloc (by simp) _
 have HS0 : Hid (TlS w P pb d false (ofCD 8 x) W0) := Lib.hid ⟨hB.ext hb0, by rw [hW0]; exact (Blk.new rfl).alloc _, by rw [hW0]; exact Blk.new (by simp), grown_of hb0, hB.lt, (hv.mono fun g h1 h2 => ⟨⟨h2, h1.1⟩, h1.2⟩).ext hb0, (hx.mono fun g h1 h2 => ⟨⟨h2, h1.1⟩, h1.2⟩).ext hb0, .leaf, Own.nil _ _ _ _⟩
 have HSZ := Lib.hid hs
 have c0 : W0.cell? ⟨w.heap.size, 0, none⟩ = some (.int .i64 8) := HS0.out.cblk.cell 0
 clear hB hv hx hs hb0
 go_enter Tryz.func48, Tryz.ntmps48
 go_upto_region 1 with (fail)
 rw [← hW0]
 clear hW0
 obtain ⟨n1, hn1⟩ : ∃ x, x = gText d.v [kDoc, kUri] := ⟨_, rfl⟩
 have Hn1 := Lib.hid hn1
 clear hn1
 go_wp2_with fail
 have HA1 := Lib.hid (HS0.out.ext (below_a1 W0 (.cells #[strV kDoc, strV kUri] 9)))
 refine (ptext_any pb d (false) (some ⟨W0.heap.size, 0, none⟩) 2 [kDoc, kUri] _ HA1.out.pblk HA1.out.vx (row_blk (Blk.new rfl) rfl) (by decide) HSZ.out).mono ?_
 rw [← Hn1.out]
 rintro e w1 ⟨rfl, hb1, hg1⟩
 have HC1 := Lib.hid (HA1.out.call hb1 hg1)
 clear hb1 hg1 HA1 HS0
 clear c0
 have c7 := HC1.out.cblk.cell 7
 have g7 := HC1.out.cblk.free 7
 unfold cdC at c7
 simp only [List.getElem?_toArray, List.getElem?_cons_zero, List.getElem?_cons_succ] at c7
 have HD1 := Lib.hid (HC1.out.put 7 (.string ⟨(n1.getD []).toArray⟩) (c' := { ofCD 8 x with name := n1.getD [] }) rfl rfl .leaf ⟨rfl, rfl, rfl⟩)
 rw [Bool.false_or] at HD1
 go_upto_region 11 with (fail)
 obtain ⟨W1, hW1⟩ : ∃ W1, W1 = w1.setCell ⟨w.heap.size, 7, none⟩ (.string ⟨(n1.getD []).toArray⟩) := ⟨_, rfl⟩
 rw [← hW1] at HD1 ⊢
 clear hW1 HC1
 clear c7 g7
 have c0 : W1.cell? ⟨w.heap.size, 0, none⟩ = some (.int .i64 8) := HD1.out.cblk.cell 0
 go_wp2_with (first | ((with_reducible show wpList _ _ _ (⟨some 80, _, _, _, _, _⟩ :: _) _ _); refine load_call rfl _ rfl w.heap.size rfl ({ ofCD 8 x with name := n1.getD [] }) HD1.out.cblk ?_) | ((with_reducible show wpList _ _ _ (⟨none, Op.store 43 _ _, _, _, _, _⟩ :: _) _ _); refine store_call rfl _ _ rfl (w.heap.size + 1) ({ ofCD 8 x with name := n1.getD [] }) zeroCD rfl rfl HD1.out.rblk ?_))
 exact tell_end (g := w.heap.size + 1) rfl (setRow_blk HD1.out.rblk) (HD1.out.fin (by rw [Hn1.out, tl_name (by decide)]; cases gText d.v [kDoc, kUri] <;> rfl) (by show (0 : Int) ≤ 8; decide) (fun y hy => by rw [tl_name (by decide), ← Hn1.out] at hy; cases n1 with | none => cases hy | some n => cases hy; rfl))
set_option maxHeartbeats 4000000 in
set_option maxRecDepth 20000 in
theorem tell_4 (P : Nat → Prop) (pb : Nat) (d x : VD) (w : World) (hB : Blk w pb (prC d false) 96) (hv : ValAt w (fun g => g ≠ pb ∧ P g) d) (hx : ValAt w (fun g => g ≠ pb ∧ P g) x) (hs : sizeV d.v ≤ 1048576) :
  Calls Tryz.prog 48 #[.pointer (some ⟨pb, 0, none⟩), .agg (cdC (ofCD 4 x))] w (TellE w P pb d (tellL 4 x.v d.v)) := by
 obtain ⟨W0, hW0⟩ : ∃ W0, W0 = (w.alloc (.cells (cdC (ofCD 4 x)) 43)).alloc (.cells #[.int .i64 0, .int .i64 0, .bool false, .int .i64 0, .string { data := #[] }, .slice none 0 0, .slice none 0 0, .string { data := #[] }, .int .i64 0, .string { data := #[] }, .slice none 0 0, .int .i64 0, .int .i64 0, .int .i64 0, .bool false, .int .i64 0, .string { data := #[] }, .slice none 0 0, .slice none 0 0] 43) := ⟨_, rfl⟩
 have hb0 : Below w.heap.size w W0 := by rw [hW0]; exact (below_a1 w _).alloc (by simp) _
 have HS0 : Hid (TlS w P pb d false (ofCD 4 x) W0) := Lib.hid ⟨hB.ext hb0, by rw [hW0]; exact (Blk.new rfl).alloc _, by rw [hW0]; exact Blk.new (by simp), grown_of hb0, hB.lt, (hv.mono fun g h1 h2 => ⟨⟨h2, h1.1⟩, h1.2⟩).ext hb0, (hx.mono fun g h1 h2 => ⟨⟨h2, h1.1⟩, h1.2⟩).ext hb0, .leaf, Own.nil _ _ _ _⟩
 have HSZ := Lib.hid hs
 have c0 : W0.cell? ⟨w.heap.size, 0, none⟩ = some (.int .i64 4) := HS0.out.cblk.cell 0
 clear hB hv hx hs hb0
 go_enter Tryz.func48, Tryz.ntmps48
 go_upto_region 1 with (fail)
 rw [← hW0]
 clear hW0
 obtain ⟨n1, hn1⟩ : ∃ x, x = gText d.v [kDoc, kUri] := ⟨_, rfl⟩
 have Hn1 := Lib.hid hn1
 clear hn1
 go_wp2_with fail
 have HA1 := Lib.hid (HS0.out.ext (below_a1 W0 (.cells #[strV kDoc, strV kUri] 9)))
 refine (ptext_any pb d (false) (some ⟨W0.heap.size, 0, none⟩) 2 [kDoc, kUri] _ HA1.out.pblk HA1.out.vx (row_blk (Blk.new rfl) rfl) (by decide) HSZ.out).mono ?_
 rw [← Hn1.out]
 rintro e w1 ⟨rfl, hb1, hg1⟩
 have HC1 := Lib.hid (HA1.out.call hb1 hg1)
 clear hb1 hg1 HA1 HS0
 clear c0
 have c7 := HC1.out.cblk.cell 7
 have g7 := HC1.out.cblk.free 7
 unfold cdC at c7
 simp only [List.getElem?_toArray, List.getElem?_cons_zero, List.getElem?_cons_succ] at c7
 have HD1 := Lib.hid (HC1.out.put 7 (.string ⟨(n1.getD []).toArray⟩) (c' := { ofCD 4 x with name := n1.getD [] }) rfl rfl .leaf ⟨rfl, rfl, rfl⟩)
 rw [Bool.false_or] at HD1
 go_upto_region 11 with (fail)
 obtain ⟨W1, hW1⟩ : ∃ W1, W1 = w1.setCell ⟨w.heap.size, 7, none⟩ (.string ⟨(n1.getD []).toArray⟩) := ⟨_, rfl⟩
 rw [← hW1] at HD1 ⊢
 clear hW1 HC1
 clear c7 g7
 have c0 : W1.cell? ⟨w.heap.size, 0, none⟩ = some (.int .i64 4) := HD1.out.cblk.cell 0
 obtain ⟨n2, hn2⟩ : ∃ x, x = gNum d.v [kDoc, kVersion] := ⟨_, rfl⟩
 have Hn2 := Lib.hid hn2
 clear hn2
 obtain ⟨n3, hn3⟩ : ∃ x, x = gText d.v [kDoc, kText] := ⟨_, rfl⟩
 have Hn3 := Lib.hid hn3
 clear hn3
 go_wp2_with fail
 have HA2 := Lib.hid (HD1.out.ext (below_a1 W1 (.cells #[strV kDoc, strV kVersion] 9)))
 refine (pnumber_any pb d (n1.isNone) (some ⟨W1.heap.size, 0, none⟩) 2 [kDoc, kVersion] _ HA2.out.pblk HA2.out.vx (row_blk (Blk.new rfl) rfl) (by decide) HSZ.out).mono ?_
 rw [← Hn2.out]
 rintro e w2 ⟨rfl, hb2, hg2⟩
 have HC2 := Lib.hid (HA2.out.call hb2 hg2)
 clear hb2 hg2 HA2 HD1
 go_wp2_with fail
 have HA3 := Lib.hid (HC2.out.ext (below_a1 w2 (.cells #[strV kDoc, strV kText] 9)))
 refine (ptext_any pb d (n1.isNone || n2.isNone) (some ⟨w2.heap.size, 0, none⟩) 2 [kDoc, kText] _ HA3.out.pblk HA3.out.vx (row_blk (Blk.new rfl) rfl) (by decide) HSZ.out).mono ?_
 rw [← Hn3.out]
 rintro e w3 ⟨rfl, hb3, hg3⟩
 have HC3 := Lib.hid (HA3.out.call hb3 hg3)
 clear hb3 hg3 HA3 HC2
 clear c0
 have c8 := HC3.out.cblk.cell 8
 have g8 := HC3.out.cblk.free 8
 have c9 := HC3.out.cblk.cell 9
 have g9 := HC3.out.cblk.free 9
 unfold cdC at c8 c9
 simp only [List.getElem?_toArray, List.getElem?_cons_zero, List.getElem?_cons_succ] at c8 c9
 have HD2 := Lib.hid ((HC3.out.put 8 (.int .i64 (n2.getD 0)) (c' := { ofCD 4 x with name := n1.getD [], version := n2.getD 0 }) rfl rfl .leaf ⟨rfl, rfl, rfl⟩).put 9 (.string ⟨(n3.getD []).toArray⟩) (c' := { ofCD 4 x with name := n1.getD [], version := n2.getD 0, text := n3.getD [] }) rfl rfl .leaf ⟨rfl, rfl, rfl⟩)
 go_upto_region 23 with (fail)
 clear c8 g8 c9 g9
 go_wp2_with (first | ((with_reducible show wpList _ _ _ (⟨some 80, _, _, _, _, _⟩ :: _) _ _); refine load_call rfl _ rfl w.heap.size rfl ({ ofCD 4 x with name := n1.getD [], version := n2.getD 0, text := n3.getD [] }) HD2.out.cblk ?_) | ((with_reducible show wpList _ _ _ (⟨none, Op.store 43 _ _, _, _, _, _⟩ :: _) _ _); refine store_call rfl _ _ rfl (w.heap.size + 1) ({ ofCD 4 x with name := n1.getD [], version := n2.getD 0, text := n3.getD [] }) zeroCD rfl rfl HD2.out.rblk ?_))
 exact tell_end (g := w.heap.size + 1) rfl (setRow_blk HD2.out.rblk) (HD2.out.fin (by rw [Hn1.out, Hn2.out, Hn3.out, tl_4]; cases gText d.v [kDoc, kUri] <;> cases gNum d.v [kDoc, kVersion] <;> cases gText d.v [kDoc, kText] <;> rfl) (by show (0 : Int) ≤ 4; decide) (fun y hy => by rw [tl_4, ← Hn1.out, ← Hn2.out, ← Hn3.out] at hy; cases n1 <;> cases n2 <;> cases n3 <;> first | (cases hy; done) | (cases hy; rfl)))
set_option maxHeartbeats 4000000 in
set_option maxRecDepth 20000 in
theorem tell_7 (P : Nat → Prop) (pb : Nat) (d x : VD) (w : World) (hB : Blk w pb (prC d false) 96) (hv : ValAt w (fun g => g ≠ pb ∧ P g) d) (hx : ValAt w (fun g => g ≠ pb ∧ P g) x) (hs : sizeV d.v ≤ 1048576) :
  Calls Tryz.prog 48 #[.pointer (some ⟨pb, 0, none⟩), .agg (cdC (ofCD 7 x))] w (TellE w P pb d (tellL 7 x.v d.v)) := by
 obtain ⟨W0, hW0⟩ : ∃ W0, W0 = (w.alloc (.cells (cdC (ofCD 7 x)) 43)).alloc (.cells #[.int .i64 0, .int .i64 0, .bool false, .int .i64 0, .string { data := #[] }, .slice none 0 0, .slice none 0 0, .string { data := #[] }, .int .i64 0, .string { data := #[] }, .slice none 0 0, .int .i64 0, .int .i64 0, .int .i64 0, .bool false, .int .i64 0, .string { data := #[] }, .slice none 0 0, .slice none 0 0] 43) := ⟨_, rfl⟩
 have hb0 : Below w.heap.size w W0 := by rw [hW0]; exact (below_a1 w _).alloc (by simp) _
 have HS0 : Hid (TlS w P pb d false (ofCD 7 x) W0) := Lib.hid ⟨hB.ext hb0, by rw [hW0]; exact (Blk.new rfl).alloc _, by rw [hW0]; exact Blk.new (by simp), grown_of hb0, hB.lt, (hv.mono fun g h1 h2 => ⟨⟨h2, h1.1⟩, h1.2⟩).ext hb0, (hx.mono fun g h1 h2 => ⟨⟨h2, h1.1⟩, h1.2⟩).ext hb0, .leaf, Own.nil _ _ _ _⟩
 have HSZ := Lib.hid hs
 have c0 : W0.cell? ⟨w.heap.size, 0, none⟩ = some (.int .i64 7) := HS0.out.cblk.cell 0
 clear hB hv hx hs hb0
 go_enter Tryz.func48, Tryz.ntmps48
 go_upto_region 1 with (fail)
 rw [← hW0]
 clear hW0
 obtain ⟨n1, hn1⟩ : ∃ x, x = gText d.v [kDoc, kUri] := ⟨_, rfl⟩
 have Hn1 := Lib.hid hn1
 clear hn1
 go_wp2_with fail
 have HA1 := Lib.hid (HS0.out.ext (below_a1 W0 (.cells #[strV kDoc, strV kUri] 9)))
 refine (ptext_any pb d (false) (some ⟨W0.heap.size, 0, none⟩) 2 [kDoc, kUri] _ HA1.out.pblk HA1.out.vx (row_blk (Blk.new rfl) rfl) (by decide) HSZ.out).mono ?_
 rw [← Hn1.out]
 rintro e w1 ⟨rfl, hb1, hg1⟩
 have HC1 := Lib.hid (HA1.out.call hb1 hg1)
 clear hb1 hg1 HA1 HS0
 clear c0
 have c7 := HC1.out.cblk.cell 7
 have g7 := HC1.out.cblk.free 7
 unfold cdC at c7
 simp only [List.getElem?_toArray, List.getElem?_cons_zero, List.getElem?_cons_succ] at c7
 have HD1 := Lib.hid (HC1.out.put 7 (.string ⟨(n1.getD []).toArray⟩) (c' := { ofCD 7 x with name := n1.getD [] }) rfl rfl .leaf ⟨rfl, rfl, rfl⟩)
 rw [Bool.false_or] at HD1
 go_upto_region 11 with (fail)
 obtain ⟨W1, hW1⟩ : ∃ W1, W1 = w1.setCell ⟨w.heap.size, 7, none⟩ (.string ⟨(n1.getD []).toArray⟩) := ⟨_, rfl⟩
 rw [← hW1] at HD1 ⊢
 clear hW1 HC1
 clear c7 g7
 have c0 : W1.cell? ⟨w.heap.size, 0, none⟩ = some (.int .i64 7) := HD1.out.cblk.cell 0
 obtain ⟨n2, hn2⟩ : ∃ x, x = gNum d.v [kPosition, kLine] := ⟨_, rfl⟩
 have Hn2 := Lib.hid hn2
 clear hn2
 obtain ⟨n3, hn3⟩ : ∃ x, x = gNum d.v [kPosition, kChar] := ⟨_, rfl⟩
 have Hn3 := Lib.hid hn3
 clear hn3
 go_wp2_with fail
 have HA2 := Lib.hid (HD1.out.ext (below_a1 W1 (.cells #[strV kPosition] 9)))
 refine (place_any pb d (n1.isNone) (some ⟨W1.heap.size, 0, none⟩) 1 [kPosition] _ HA2.out.pblk HA2.out.vx (row_blk (Blk.new rfl) rfl) (fun _ => by simp [blockOf]; have := HD1.out.pbl; have := HD1.out.grown.size; omega) (by decide) HSZ.out).mono ?_
 simp only [List.cons_append, List.nil_append]
 rw [← Hn2.out, ← Hn3.out]
 rintro e w2 ⟨rfl, hb2, hg2⟩
 have HC2 := Lib.hid (HA2.out.call hb2 hg2)
 clear hb2 hg2 HA2 HD1
 clear c0
 have c11 := HC2.out.cblk.cell 11
 have g11 := HC2.out.cblk.free 11
 have c12 := HC2.out.cblk.cell 12
 have g12 := HC2.out.cblk.free 12
 unfold cdC at c11 c12
 simp only [List.getElem?_toArray, List.getElem?_cons_zero, List.getElem?_cons_succ] at c11 c12
 have HD2 := Lib.hid ((HC2.out.put 11 (.int .i64 (n2.getD 0)) (c' := { ofCD 7 x with name := n1.getD [], pl := n2.getD 0 }) rfl rfl .leaf ⟨rfl, rfl, rfl⟩).put 12 (.int .i64 (n3.getD 0)) (c' := { ofCD 7 x with name := n1.getD [], pl := n2.getD 0, pu := n3.getD 0 }) rfl rfl .leaf ⟨rfl, rfl, rfl⟩)
 go_upto_region 23 with (fail)
 clear c11 g11 c12 g12
 go_wp2_with (first | ((with_reducible show wpList _ _ _ (⟨some 80, _, _, _, _, _⟩ :: _) _ _); refine load_call rfl _ rfl w.heap.size rfl ({ ofCD 7 x with name := n1.getD [], pl := n2.getD 0, pu := n3.getD 0 }) HD2.out.cblk ?_) | ((with_reducible show wpList _ _ _ (⟨none, Op.store 43 _ _, _, _, _, _⟩ :: _) _ _); refine store_call rfl _ _ rfl (w.heap.size + 1) ({ ofCD 7 x with name := n1.getD [], pl := n2.getD 0, pu := n3.getD 0 }) zeroCD rfl rfl HD2.out.rblk ?_))
 exact tell_end (g := w.heap.size + 1) rfl (setRow_blk HD2.out.rblk) (HD2.out.fin (by rw [Hn1.out, Hn2.out, Hn3.out, tl_7]; unfold gPlace; simp only [List.cons_append, List.nil_append]; cases gText d.v [kDoc, kUri] <;> cases gNum d.v [kPosition, kLine] <;> cases gNum d.v [kPosition, kChar] <;> rfl) (by show (0 : Int) ≤ 7; decide) (fun y hy => by rw [tl_7] at hy; unfold gPlace at hy; simp only [List.cons_append, List.nil_append] at hy; rw [← Hn1.out, ← Hn2.out, ← Hn3.out] at hy; cases n1 <;> cases n2 <;> cases n3 <;> first | (cases hy; done) | (cases hy; rfl)))
end Go.Proofs.YthnbeebilomchaaGreatDoor

namespace Go.Proofs.YthnbeebilomchaaGreatDoor
open Go Go.RowKit

set_option maxHeartbeats 4000000 in
set_option maxRecDepth 20000 in
theorem tell_9 (P : Nat → Prop) (pb : Nat) (d x : VD) (w : World) (hB : Blk w pb (prC d false) 96) (hv : ValAt w (fun g => g ≠ pb ∧ P g) d) (hx : ValAt w (fun g => g ≠ pb ∧ P g) x) (hs : sizeV d.v ≤ 1048576) :
  Calls Tryz.prog 48 #[.pointer (some ⟨pb, 0, none⟩), .agg (cdC (ofCD 9 x))] w (TellE w P pb d (tellL 9 x.v d.v)) := by
 obtain ⟨W0, hW0⟩ : ∃ W0, W0 = (w.alloc (.cells (cdC (ofCD 9 x)) 43)).alloc (.cells #[.int .i64 0, .int .i64 0, .bool false, .int .i64 0, .string { data := #[] }, .slice none 0 0, .slice none 0 0, .string { data := #[] }, .int .i64 0, .string { data := #[] }, .slice none 0 0, .int .i64 0, .int .i64 0, .int .i64 0, .bool false, .int .i64 0, .string { data := #[] }, .slice none 0 0, .slice none 0 0] 43) := ⟨_, rfl⟩
 have hb0 : Below w.heap.size w W0 := by rw [hW0]; exact (below_a1 w _).alloc (by simp) _
 have HS0 : Hid (TlS w P pb d false (ofCD 9 x) W0) := Lib.hid ⟨hB.ext hb0, by rw [hW0]; exact (Blk.new rfl).alloc _, by rw [hW0]; exact Blk.new (by simp), grown_of hb0, hB.lt, (hv.mono fun g h1 h2 => ⟨⟨h2, h1.1⟩, h1.2⟩).ext hb0, (hx.mono fun g h1 h2 => ⟨⟨h2, h1.1⟩, h1.2⟩).ext hb0, .leaf, Own.nil _ _ _ _⟩
 have HSZ := Lib.hid hs
 have c0 : W0.cell? ⟨w.heap.size, 0, none⟩ = some (.int .i64 9) := HS0.out.cblk.cell 0
 clear hB hv hx hs hb0
 go_enter Tryz.func48, Tryz.ntmps48
 go_upto_region 1 with (fail)
 rw [← hW0]
 clear hW0
 have p0 := HS0.out.pblk.cell 0
 have p1 := HS0.out.pblk.cell 1
 have p2 := HS0.out.pblk.cell 2
 have p3 := HS0.out.pblk.cell 3
 have p4 := HS0.out.pblk.cell 4
 have p5 := HS0.out.pblk.cell 5
 unfold prC at p0 p1 p2 p3 p4 p5
 simp only [List.getElem?_toArray, List.getElem?_cons_zero, List.getElem?_cons_succ] at p0 p1 p2 p3 p4 p5
 obtain ⟨r, hr⟩ : ∃ r, r = (getV d.v [kId]).getD .null := ⟨_, rfl⟩
 have HR := Lib.hid hr
 clear hr
 go_wp2_with fail
 have HSa := Lib.hid (HS0.out.ext (below_a1 W0 (.cells #[strV kId] 9)))
 refine (get_w (PP w P pb) d (some ⟨W0.heap.size, 0, none⟩) 1 [kId] _ HSa.out.val (Row.new1 rfl rfl rfl) (by decide) HSZ.out).mono ?_
 clear p0 p1 p2 p3 p4 p5 c0
 rintro e w1 ⟨y, b, rfl, -, hy, hvy, hbl⟩
 have HY : Hid (y.v = r) := Lib.hid (by rw [HR.out]; exact hy.out)
 have HS1 := Lib.hid (HSa.out.ext hbl)
 have HVY := Lib.hid (hvy.ext hbl)
 clear hy hvy hbl HSa HS0
 have c13 := HS1.out.cblk.cell 13
 have g13 := HS1.out.cblk.free 13
 have c14 := HS1.out.cblk.cell 14
 have g14 := HS1.out.cblk.free 14
 have c15 := HS1.out.cblk.cell 15
 have g15 := HS1.out.cblk.free 15
 have c16 := HS1.out.cblk.cell 16
 have g16 := HS1.out.cblk.free 16
 have c17 := HS1.out.cblk.cell 17
 have g17 := HS1.out.cblk.free 17
 have c18 := HS1.out.cblk.cell 18
 have g18 := HS1.out.cblk.free 18
 unfold cdC at c13 c14 c15 c16 c17 c18
 simp only [List.getElem?_toArray, List.getElem?_cons_zero, List.getElem?_cons_succ] at c13 c14 c15 c16 c17 c18
 obtain ⟨W2, hW2⟩ : ∃ W2, W2 = ((((((w1.setCell ⟨w.heap.size, 13, none⟩ (.int .i64 y.sort)).setCell ⟨w.heap.size, 14, none⟩ (.bool y.on)).setCell ⟨w.heap.size, 15, none⟩ (.int .i64 y.n)).setCell ⟨w.heap.size, 16, none⟩ (.string ⟨y.text.toArray⟩)).setCell ⟨w.heap.size, 17, none⟩ (.slice y.a y.list.length y.c)).setCell ⟨w.heap.size, 18, none⟩ (.slice y.ka y.keys.length y.kc)) := ⟨_, rfl⟩
 have HS2 : Hid (TlS w P pb d false { ofCD 9 x with other := y } W2) := Lib.hid (by
  rw [hW2]
  exact HS1.out.set (c' := { ofCD 9 x with other := y }) (grown_set (grown_set (grown_set (grown_set (grown_set (grown_set (grown_of (Below.refl w1.heap.size w1) : w1.grownBy w1 (some w.heap.size)) _ _) _ _) _ _) _ _) _ _) _ _) ((((((HS1.out.cblk.set 13 (.int .i64 y.sort)).set 14 (.bool y.on)).set 15 (.int .i64 y.n)).set 16 (.string ⟨y.text.toArray⟩)).set 17 (.slice y.a y.list.length y.c)).set 18 (.slice y.ka y.keys.length y.kc)) rfl HVY.out ⟨rfl, rfl, rfl⟩)
 go_upto_region 8 with (fail)
 rw [← hW2]
 clear hW2 HS1 c13 g13 c14 g14 c15 g15 c16 g16 c17 g17 c18 g18
 have c13 := HS2.out.cblk.cell 13
 have c14 := HS2.out.cblk.cell 14
 have c15 := HS2.out.cblk.cell 15
 have c16 := HS2.out.cblk.cell 16
 have c17 := HS2.out.cblk.cell 17
 have c18 := HS2.out.cblk.cell 18
 unfold cdC at c13 c14 c15 c16 c17 c18
 simp only [List.getElem?_toArray, List.getElem?_cons_zero, List.getElem?_cons_succ] at c13 c14 c15 c16 c17 c18
 have q6 := HS2.out.pblk.free 6
 have h1 := id_any y W2
 rw [VD.val6] at h1
 have H1 := Lib.hid h1
 clear h1
 go_wp2_with fail
 refine H1.out.mono ?_
 rintro e w3 ⟨rfl, hb3⟩
 have HS3 := Lib.hid (HS2.out.ext hb3)
 clear H1 hb3 HS2 q6 c13 c14 c15 c16 c17 c18
 have q6 := HS3.out.pblk.free 6
 have m6 := HS3.out.pblk.cell 6
 unfold prC at m6
 simp only [List.getElem?_toArray, List.getElem?_cons_zero, List.getElem?_cons_succ] at m6
 obtain ⟨b2, hb2⟩ : ∃ b2, b2 = idOk y.v := ⟨_, rfl⟩
 rw [← hb2]
 have HB2 : Hid (b2 = idOk r) := Lib.hid (by rw [hb2, HY.out])
 clear hb2
 obtain ⟨W4, hW4⟩ : ∃ W4, W4 = w3.setCell ⟨pb, 6, none⟩ (.bool (!b2)) := ⟨_, rfl⟩
 have HS4 : Hid (TlS w P pb d (!b2) { ofCD 9 x with other := y } W4) := Lib.hid (by
  rw [hW4]
  exact HS3.out.call (HS3.out.pblk.set 6 _) (grown_set (grown_of (Below.refl w3.heap.size w3)) _ _))
 go_upto_region 9 with (fail)
 rw [← hW4]
 clear hW4 HS3 q6 m6
 go_wp2_with (first | ((with_reducible show wpList _ _ _ (⟨some 33, _, _, _, _, _⟩ :: _) _ _); refine load_call rfl _ rfl w.heap.size rfl ({ ofCD 9 x with other := y }) HS4.out.cblk ?_) | ((with_reducible show wpList _ _ _ (⟨none, Op.store 43 _ _, _, _, _, _⟩ :: _) _ _); refine store_call rfl _ _ rfl (w.heap.size + 1) ({ ofCD 9 x with other := y }) zeroCD rfl rfl HS4.out.rblk ?_))
 exact tell_end (g := w.heap.size + 1) rfl (setRow_blk HS4.out.rblk) (HS4.out.fin (by rw [tl_9, ← HR.out, HB2.out]; cases idOk r <;> rfl) (by show (0 : Int) ≤ 9; decide) (fun z hz => by rw [tl_9, ← HR.out] at hz; cases hi : idOk r with | false => rw [hi] at hz; cases hz | true => rw [hi, if_pos rfl] at hz; cases hz; show CD.k _ = _; simp only [CD.k, ofCD, zeroCD]; rw [HY.out]; rfl))
end Go.Proofs.YthnbeebilomchaaGreatDoor

namespace Go.Proofs.YthnbeebilomchaaGreatDoor
open Go Go.RowKit

theorem Tryz.infoEdit : (Tryz.prog.info? 82).map (fun i => (i.zero, i.size, i.bytes)) = some (some (.agg #[.int .i64 0, .int .i64 0, .int .i64 0, .int .i64 0, .string ByteArray.empty, .bool false]), 6, 56) := by kernel_rfl
theorem tl_5 (x p : V) : tellL 5 x p = (gText p [kDoc, kUri]).bind fun name => (gNum p [kDoc, kVersion]).bind fun n => ((gList p [kChanges]).bind chsL).map fun l => { C.of 5 x with name := name, version := n, changes := l } := rfl
theorem chsL_map : ∀ l : List V, chsL l = if l.any (fun v => (chL v).isNone) = true then none else some (l.map chG)
  | [] => rfl
  | v :: l => by
    rw [chsL, chsL_map l, List.any_cons]
    cases hc : chL v with
    | none => rfl
    | some e =>
      rw [Option.bind_some, Option.isNone_some, Bool.false_or]
      by_cases h : (l.any fun v => (chL v).isNone) = true
      · rw [if_pos h, if_pos h]; rfl
      · rw [if_neg h, if_neg h, List.map_cons, chL_chG hc]; rfl
theorem stepV_size {v y : V} {k : Nm} (h : stepV v k = some y) : sizeV y ≤ sizeV v := by
  unfold stepV at h
  split at h
  · cases hi : indexK k v.keys with
    | none => rw [hi] at h; cases h
    | some i =>
      rw [hi, Option.bind_some] at h
      have := sizesV_mem (List.mem_of_getElem? h)
      obtain ⟨s, o, n, t, l, ks⟩ := v
      simp only [V.list] at this
      rw [show sizeV (V.mk s o n t l ks) = _ from rfl]
      simp only [sizeV]
      omega
  · cases h
theorem getV_size : ∀ (p : List Nm) {v y : V}, getV v p = some y → sizeV y ≤ sizeV v
  | [], v, y, h => by rw [getV_nil] at h; cases h; exact Nat.le_refl _
  | k :: p, v, y, h => by
    rw [getV] at h
    cases hs : stepV v k with
    | none => rw [hs] at h; cases h
    | some z => rw [hs] at h; exact Nat.le_trans (getV_size p h) (stepV_size hs)
theorem getS_size {v : V} {s : Int} {p : List Nm} : sizeV ((getS v s p).getD .null) ≤ sizeV v := by
  have h0 : sizeV V.null ≤ sizeV v := by cases v; simp [V.null, sizeV, sizesV]; omega
  unfold getS
  cases hg : getV v p with
  | none => exact h0
  | some y =>
    rw [Option.bind_some]
    split
    · exact getV_size p hg
    · exact h0
theorem list_size {v x : V} (h : x ∈ v.list) : sizeV x ≤ sizeV v := by
  obtain ⟨s, o, n, t, l, ks⟩ := v
  have := sizesV_mem h
  simp only [V.list] at this
  simp only [sizeV]
  omega
theorem list_len (v : V) : v.list.length ≤ sizeV v := by
  obtain ⟨s, o, n, t, l, ks⟩ := v
  have := sizesV_len l
  simp only [V.list, sizeV]
  omega
theorem tl5_ends {x d : V} {n1 : Option Nm} {n2 : Option Int} {zl : List V} (h1 : n1 = gText d [kDoc, kUri]) (h2 : n2 = gNum d [kDoc, kVersion]) (hz : zl = ((getS d 4 [kChanges]).getD .null).list) :
  (n1.isNone || n2.isNone || (getS d 4 [kChanges]).isNone || zl.any fun q => (chL q).isNone) = (tellL 5 x d).isNone ∧ ∀ y, tellL 5 x d = some y → ({ C.of 5 x with name := n1.getD [], version := n2.getD 0, changes := zl.map chG } : C) = y := by
 rw [tl_5, ← h1, ← h2, gList_S]
 cases n1 with
 | none => exact ⟨rfl, fun y hy => by cases hy⟩
 | some a =>
  cases n2 with
  | none => exact ⟨rfl, fun y hy => by cases hy⟩
  | some b =>
   cases hg : getS d 4 [kChanges] with
   | none => exact ⟨rfl, fun y hy => by cases hy⟩
   | some z =>
    rw [hg] at hz
    simp only [Option.getD_some] at hz
    subst hz
    simp only [Option.map_some, Option.bind_some, chsL_map]
    by_cases ha : (z.list.any fun q => (chL q).isNone) = true
    ·
     rw [if_pos ha, ha]; exact ⟨rfl, fun y hy => by cases hy⟩
    ·
     rw [if_neg ha]
     have hf : (z.list.any fun q => (chL q).isNone) = false := by simpa using ha
     rw [hf]
     exact ⟨rfl, fun y hy => by cases hy; rfl⟩
theorem val_same {w A B : World} {P : Nat → Prop} {pb : Nat} {z : VD} (hA : w.grownBy A (some pb)) (hB : w.grownBy B (some pb)) (h : ValAt A (PP w P pb) z) : ValAt B (PP w P pb) z :=
  h.congr fun g h1 _ => (hB.block g h1.1.1 (by simpa using h1.1.2)).trans (hA.block g h1.1.1 (by simpa using h1.1.2)).symm
structure TlB (w : World) (P : Nat → Prop) (pb : Nat) (d : VD) (c : CD) (W : World) : Prop where
  rblk : Blk W (w.heap.size + 1) (cdC zeroCD) 43
  grown : w.grownBy W (some pb)
  pbl : pb < w.heap.size
  val : ValAt W (PP w P pb) d
  id : ValAt W (PP w P pb) c.id
  other : ValAt W (PP w P pb) c.other
  sz : w.heap.size + 2 ≤ W.heap.size
structure TlI (w : World) (P : Nat → Prop) (pb gx : Nat) (d x : VD) (m : Bool) (c : CD) (D : Nat → Bool) (s : Nat → Value) (W : World) : Prop where
 b : TlB w P pb d c W
 gxl : w.heap.size + 2 ≤ gx
 pblk : Blk W pb (prC d (bif D 4 then m || (chL x.v).isNone else m)) 96
 xblk : Blk W gx #[.int .i64 x.sort, .bool x.on, .int .i64 x.n, .string ⟨x.text.toArray⟩, .slice x.a x.list.length x.c, .slice x.ka x.keys.length x.kc] 36
 xval : ValAt W (PP w P pb) x
 cblk : D 8 = false → Blk W w.heap.size (cdC c) 43
 s66 : D 1 = true → s 66 = .slice c.a c.changes.length c.c
 own0 : D 6 = false → Own W (w.heap.size + 2) 82 6 c.a c.changes.length c.c (c.changes.flatMap E.cells)
 s69 : D 4 = true → s 69 = .agg (edC (chG x.v))
 s70 : D 5 = true → D 6 = false → ∃ g, s 70 = .slice (some ⟨g, 0, none⟩) 1 1 ∧ w.heap.size + 2 ≤ g ∧ Blk W g (edC (chG x.v)) 82
 s71 : D 6 = true → ∃ a k, s 71 = .slice a (c.changes.length + 1) k ∧ Own W (w.heap.size + 2) 82 6 a (c.changes.length + 1) k (c.changes.flatMap E.cells ++ (chG x.v).cells) ∧ (D 8 = true → Blk W w.heap.size (cdC { c with changes := c.changes ++ [chG x.v], a := a, c := k }) 43)
 s72 : D 7 = true → s 72 = .pointer (some ⟨w.heap.size, 10, none⟩)
section
variable {w : World} {P : Nat → Prop} {pb gx : Nat} {d x : VD} {m : Bool} {c : CD} {D : Nat → Bool} {s : Nat → Value} {W W' : World}
theorem TlB.grow (h : TlB w P pb d c W) {row : Option Nat} (hg : W.grownBy W' row) (hr : ∀ k, row = some k → k = pb ∨ w.heap.size ≤ k) (hr2 : row ≠ some (w.heap.size + 1)) : TlB w P pb d c W' := by
  have h1 := h.pbl
  have hz := h.grown.size
  have qv : ∀ {y : VD}, ValAt W (PP w P pb) y → ValAt W' (PP w P pb) y := fun hy => hy.congr fun g h2 h3 => hg.block g h3 (fun e => by have := h2.1.1; rcases hr g e.symm with h4 | h4; exact h2.1.2 h4; omega)
  exact ⟨h.rblk.grown hg (fun e => hr2 e.symm), ⟨hg.os.trans h.grown.os, hg.tape.trans h.grown.tape, hg.output.trans h.grown.output, Nat.le_trans hz hg.size, fun k hk hne => (hg.block k (by omega) (fun e => by rcases hr k e.symm with h4 | h4; exact hne (by rw [h4]); omega)).trans (h.grown.block k hk hne)⟩, h1, qv h.val, qv h.id, qv h.other, Nat.le_trans h.sz hg.size⟩
theorem TlI.start (h : TlS w P pb d m c W) (hgx : w.heap.size + 2 ≤ gx) (hx : Blk W gx #[.int .i64 x.sort, .bool x.on, .int .i64 x.n, .string ⟨x.text.toArray⟩, .slice x.a x.list.length x.c, .slice x.ka x.keys.length x.kc] 36) (hxv : ValAt W (PP w P pb) x) (hs : w.heap.size + 2 ≤ W.heap.size) (d1 : D 1 = false) (d4 : D 4 = false) (d5 : D 5 = false) (d6 : D 6 = false) (d7 : D 7 = false) : TlI w P pb gx d x m c D s W :=
  { b := ⟨h.rblk, h.grown, h.pbl, h.val, h.id, h.other, hs⟩, gxl := hgx, pblk := by rw [d4]; exact h.pblk, xblk := hx, xval := hxv, cblk := fun _ => h.cblk
    s66 := fun e => by rw [d1] at e; cases e
    own0 := fun _ => h.own
    s69 := fun e => by rw [d4] at e; cases e
    s70 := fun e => by rw [d5] at e; cases e
    s71 := fun e => by rw [d6] at e; cases e
    s72 := fun e => by rw [d7] at e; cases e }
theorem TlI.op1 (h : TlI w P pb gx d x m c D s W) : TlI w P pb gx d x m c (updD D 1) (updS s (some 66) (.slice c.a c.changes.length c.c)) W := { h with s66 := fun _ => rfl }
theorem TlI.op7 (h : TlI w P pb gx d x m c D s W) : TlI w P pb gx d x m c (updD D 7) (updS s (some 72) (.pointer (some ⟨w.heap.size, 10, none⟩))) W := { h with s72 := fun _ => rfl }
theorem TlI.op4 (h : TlI w P pb gx d x m c D s W) (n5 : D 5 = false) (n6 : D 6 = false) (hb : Blk W' pb (prC d (m || (chL x.v).isNone)) 96) (hg : W.grownBy W' (some pb)) : TlI w P pb gx d x m c (updD D 4) (updS s (some 69) (.agg (edC (chG x.v)))) W' := by
  have h1 := h.b.pbl
  have h2 := h.gxl
  exact { b := h.b.grow hg (fun k e => .inl (by cases e; rfl)) (by simp; omega), gxl := h.gxl, pblk := by rw [updD_self]; exact hb, xblk := h.xblk.grown hg (by simp; omega), xval := h.xval.congr fun g h2 h3 => hg.block g h3 (by simpa using h2.1.2), cblk := fun e => (h.cblk e).grown hg (by simp; omega)
          s66 := h.s66
          own0 := fun e => (h.own0 e).kept hg (by cases ha : blockOf c.a with
            | none => exact .inl rfl
            | some g => exact .inr (by have := (h.own0 e).base ha; simp; omega))
          s69 := fun _ => rfl
          s70 := fun e => by rw [show updD D 4 5 = D 5 from rfl, n5] at e; cases e
          s71 := fun e => by rw [show updD D 4 6 = D 6 from rfl, n6] at e; cases e
          s72 := h.s72 }
theorem TlI.op5 (h : TlI w P pb gx d x m c D s W) (n6 : D 6 = false) : TlI w P pb gx d x m c (updD D 5) (updS s (some 70) (.slice (some ⟨W.heap.size, 0, none⟩) 1 1)) (W.alloc (.cells (edC (chG x.v)) 82)) := by
  have hg := World.grownBy_alloc W (.cells (edC (chG x.v)) 82) none
  exact { b := h.b.grow hg (fun k e => by cases e) (by simp), gxl := h.gxl, pblk := h.pblk.alloc _, xblk := h.xblk.alloc _, xval := h.xval.ext (below_a1 _ _), cblk := fun e => (h.cblk e).alloc _
          s66 := h.s66, own0 := fun e => (h.own0 e).alloc _, s69 := h.s69
          s70 := fun _ _ => ⟨_, rfl, h.b.sz, Blk.new rfl⟩
          s71 := fun e => by rw [show updD D 5 6 = D 6 from rfl, n6] at e; cases e
          s72 := h.s72 }
theorem TlI.op6 (h : TlI w P pb gx d x m c D s W) (d6 : D 6 = false) (n8 : D 8 = false) {a : Option Addr} {k : Nat} (ho : Own W' (w.heap.size + 2) 82 6 a (c.changes.length + 1) k (c.changes.flatMap E.cells ++ (chG x.v).cells)) (hg : W.grownBy W' (rowOf c.a c.c)) : TlI w P pb gx d x m c (updD D 6) (updS s (some 71) (.slice a (c.changes.length + 1) k)) W' := by
  have h1 := h.b.pbl
  have hr : ∀ k, rowOf c.a c.c = some k → w.heap.size + 2 ≤ k := (h.own0 d6).rowBase (Nat.le_refl _)
  have hlo : ∀ k, k < w.heap.size + 2 → some k ≠ rowOf c.a c.c := fun k hk e => by have := hr k e.symm; omega
  exact { b := h.b.grow hg (fun k e => .inr (by have := hr k e; omega)) (fun e => by have := hr _ e; omega), gxl := h.gxl, pblk := h.pblk.grown hg (hlo _ (by omega)), xblk := h.xblk.grown hg ((h.own0 d6).notBlk h.xblk (by decide)), xval := h.xval.congr fun g h2 h3 => hg.block g h3 (hlo _ (by have := h2.1.1; omega)), cblk := fun e => (h.cblk e).grown hg (hlo _ (by omega))
          s66 := h.s66
          own0 := fun e => by rw [updD_self] at e; cases e
          s69 := h.s69
          s70 := fun _ e => by rw [updD_self] at e; cases e
          s71 := fun _ => ⟨a, k, rfl, ho, fun e => by rw [show updD D 6 8 = D 8 from rfl, n8] at e; cases e⟩
          s72 := h.s72 }
theorem TlI.op8 (h : TlI w P pb gx d x m c D s W) (d8 : D 8 = false) (e6 : D 6 = true) (v : Value) : TlI w P pb gx d x m c (updD D 8) (updS s none v) (W.setCell ⟨w.heap.size, 10, none⟩ (s 71)) := by
  have h1 := h.b.pbl
  have h2 := h.gxl
  have hg : W.grownBy (W.setCell ⟨w.heap.size, 10, none⟩ (s 71)) (some w.heap.size) := grown_set (grown_of (Below.refl W.heap.size W)) _ _
  exact { b := h.b.grow hg (fun k e => .inr (by cases e; exact Nat.le_refl _)) (by simp), gxl := h.gxl, pblk := h.pblk.grown hg (by simp; omega), xblk := h.xblk.grown hg (by simp; omega), xval := h.xval.congr fun g h2 h3 => hg.block g h3 (by have := h2.1.1; simp; omega)
          cblk := fun e => by rw [updD_self] at e; cases e
          s66 := h.s66
          own0 := fun e => by rw [show updD D 8 6 = D 6 from rfl, e6] at e; cases e
          s69 := h.s69
          s70 := fun _ e => by rw [show updD D 8 6 = D 6 from rfl, e6] at e; cases e
          s71 := fun _ => by
            obtain ⟨a, k, q1, q2, -⟩ := h.s71 e6
            refine ⟨a, k, q1, q2.setCell_row (p := ⟨w.heap.size, 10, none⟩) (fun e => by have := q2.rowBase (Nat.le_refl _) _ e; simp at this; omega) _, fun _ => ?_⟩
            rw [q1]
            have := (h.cblk d8).set 10 (.slice a (c.changes.length + 1) k)
            rw [show (cdC c).setIfInBounds 10 (.slice a (c.changes.length + 1) k) = cdC { c with changes := c.changes ++ [chG x.v], a := a, c := k } from by simp [cdC]] at this
            exact this
          s72 := h.s72 }
theorem TlI.ends (h : TlI w P pb gx d x m c D s W) (e4 : D 4 = true) (e6 : D 6 = true) (e8 : D 8 = true) : ∃ a k, TlS w P pb d (m || (chL x.v).isNone) { c with changes := c.changes ++ [chG x.v], a := a, c := k } W := by
  obtain ⟨a, k, -, q2, q3⟩ := h.s71 e6
  refine ⟨a, k, by have := h.pblk; rw [e4] at this; exact this, q3 e8, h.b.rblk, h.b.grown, h.b.pbl, h.b.val, h.b.id, h.b.other, ?_⟩
  show Own W _ _ 6 a (c.changes ++ [chG x.v]).length k ((c.changes ++ [chG x.v]).flatMap E.cells)
  rw [List.length_append, List.flatMap_append, List.flatMap_singleton]
  exact q2
end
set_option maxHeartbeats 4000000 in
set_option maxRecDepth 20000 in
theorem tell_5 (P : Nat → Prop) (pb : Nat) (d x : VD) (w : World) (hB : Blk w pb (prC d false) 96) (hv : ValAt w (fun g => g ≠ pb ∧ P g) d) (hx : ValAt w (fun g => g ≠ pb ∧ P g) x) (hs : sizeV d.v ≤ 1048576) :
  Calls Tryz.prog 48 #[.pointer (some ⟨pb, 0, none⟩), .agg (cdC (ofCD 5 x))] w (TellE w P pb d (tellL 5 x.v d.v)) := by
 obtain ⟨W0, hW0⟩ : ∃ W0, W0 = (w.alloc (.cells (cdC (ofCD 5 x)) 43)).alloc (.cells #[.int .i64 0, .int .i64 0, .bool false, .int .i64 0, .string { data := #[] }, .slice none 0 0, .slice none 0 0, .string { data := #[] }, .int .i64 0, .string { data := #[] }, .slice none 0 0, .int .i64 0, .int .i64 0, .int .i64 0, .bool false, .int .i64 0, .string { data := #[] }, .slice none 0 0, .slice none 0 0] 43) := ⟨_, rfl⟩
 have hb0 : Below w.heap.size w W0 := by rw [hW0]; exact (below_a1 w _).alloc (by simp) _
 have HS0 : Hid (TlS w P pb d false (ofCD 5 x) W0) := Lib.hid ⟨hB.ext hb0, by rw [hW0]; exact (Blk.new rfl).alloc _, by rw [hW0]; exact Blk.new (by simp), grown_of hb0, hB.lt, (hv.mono fun g h1 h2 => ⟨⟨h2, h1.1⟩, h1.2⟩).ext hb0, (hx.mono fun g h1 h2 => ⟨⟨h2, h1.1⟩, h1.2⟩).ext hb0, .leaf, Own.nil _ _ _ _⟩
 have HSZ := Lib.hid hs
 have c0 : W0.cell? ⟨w.heap.size, 0, none⟩ = some (.int .i64 5) := HS0.out.cblk.cell 0
 clear hB hv hx hs hb0
 go_enter Tryz.func48, Tryz.ntmps48
 go_upto_region 1 with (fail)
 rw [← hW0]
 clear hW0
 obtain ⟨n1, hn1⟩ : ∃ x, x = gText d.v [kDoc, kUri] := ⟨_, rfl⟩
 have Hn1 := Lib.hid hn1
 clear hn1
 go_wp2_with fail
 have HA1 := Lib.hid (HS0.out.ext (below_a1 W0 (.cells #[strV kDoc, strV kUri] 9)))
 refine (ptext_any pb d (false) (some ⟨W0.heap.size, 0, none⟩) 2 [kDoc, kUri] _ HA1.out.pblk HA1.out.vx (row_blk (Blk.new rfl) rfl) (by decide) HSZ.out).mono ?_
 rw [← Hn1.out]
 rintro e w1 ⟨rfl, hb1, hg1⟩
 have HC1 := Lib.hid (HA1.out.call hb1 hg1)
 clear hb1 hg1 HA1 HS0
 clear c0
 have c7 := HC1.out.cblk.cell 7
 have g7 := HC1.out.cblk.free 7
 unfold cdC at c7
 simp only [List.getElem?_toArray, List.getElem?_cons_zero, List.getElem?_cons_succ] at c7
 have HD1 := Lib.hid (HC1.out.put 7 (.string ⟨(n1.getD []).toArray⟩) (c' := { ofCD 5 x with name := n1.getD [] }) rfl rfl .leaf ⟨rfl, rfl, rfl⟩)
 rw [Bool.false_or] at HD1
 go_upto_region 11 with (fail)
 obtain ⟨W1, hW1⟩ : ∃ W1, W1 = w1.setCell ⟨w.heap.size, 7, none⟩ (.string ⟨(n1.getD []).toArray⟩) := ⟨_, rfl⟩
 rw [← hW1] at HD1 ⊢
 clear hW1 HC1
 clear c7 g7
 have c0 : W1.cell? ⟨w.heap.size, 0, none⟩ = some (.int .i64 5) := HD1.out.cblk.cell 0
 obtain ⟨n2, hn2⟩ : ∃ x, x = gNum d.v [kDoc, kVersion] := ⟨_, rfl⟩
 have Hn2 := Lib.hid hn2
 clear hn2
 go_wp2_with fail
 have HA2 := Lib.hid (HD1.out.ext (below_a1 W1 (.cells #[strV kDoc, strV kVersion] 9)))
 refine (pnumber_any pb d (n1.isNone) (some ⟨W1.heap.size, 0, none⟩) 2 [kDoc, kVersion] _ HA2.out.pblk HA2.out.vx (row_blk (Blk.new rfl) rfl) (by decide) HSZ.out).mono ?_
 rw [← Hn2.out]
 rintro e w2 ⟨rfl, hb2, hg2⟩
 have HC2 := Lib.hid (HA2.out.call hb2 hg2)
 clear hb2 hg2 HA2 HD1
 clear c0
 have c8 := HC2.out.cblk.cell 8
 have g8 := HC2.out.cblk.free 8
 unfold cdC at c8
 simp only [List.getElem?_toArray, List.getElem?_cons_zero, List.getElem?_cons_succ] at c8
 have HD2 := Lib.hid (HC2.out.put 8 (.int .i64 (n2.getD 0)) (c' := { ofCD 5 x with name := n1.getD [], version := n2.getD 0 }) rfl rfl .leaf ⟨rfl, rfl, rfl⟩)
 go_upto_region 16 with (fail)
 obtain ⟨W2, hW2⟩ : ∃ W2, W2 = w2.setCell ⟨w.heap.size, 8, none⟩ (.int .i64 (n2.getD 0)) := ⟨_, rfl⟩
 rw [← hW2] at HD2 ⊢
 clear hW2 HC2
 clear c8 g8
 go_wp2_with fail
 have HA3 := Lib.hid (HD2.out.ext (below_a1 W2 (.cells #[strV kChanges] 9)))
 refine (sorted_any (PP w P pb) pb d (n1.isNone || n2.isNone) 4 (some ⟨W2.heap.size, 0, none⟩) 1 [kChanges] _ (fun _ h => h.1.2) HA3.out.pblk HA3.out.val (row_blk (Blk.new rfl) rfl) (by decide) HSZ.out).mono ?_
 rintro e w4 ⟨hg4, hb4, z, rfl, hz, hvz⟩
 have HC4 := Lib.hid (HA3.out.call hb4 hg4)
 have HZ := Lib.hid hz
 have HZV := Lib.hid hvz
 have HZL : Hid (z.v.list = z.list.map VD.v) := Lib.hid (by rw [VD.v_eq]; rfl)
 have HZS : Hid (sizeV z.v ≤ 1048576) := Lib.hid (by rw [hz]; exact Nat.le_trans getS_size HSZ.out)
 have HZN : Hid (z.list.length ≤ 1048576) := Lib.hid (by have := list_len z.v; rw [HZL.out, List.length_map] at this; exact Nat.le_trans this HZS.out)
 have hf := (fun w : World => (show Sem.run Tryz.prog (Instr.field 36 (.agg #[.int .i64 z.sort, .bool z.on, .int .i64 z.n, .string ⟨z.text.toArray⟩, .slice z.a z.list.length z.c, .slice z.ka z.keys.length z.kc]) 4) w = .ok (.slice z.a z.list.length z.c) w by kernel_rfl)) w4
 obtain ⟨m0, hm0⟩ : ∃ q, q = (n1.isNone || n2.isNone || (getS d.v 4 [kChanges]).isNone) := ⟨_, rfl⟩
 rw [← hm0] at HC4
 have HM0 := Lib.hid hm0
 clear hg4 hb4 hz hvz HA3 HD2 hm0
 go_wp2
 clear hf
 obtain ⟨za, hza⟩ : ∃ q, q = z.a := ⟨_, rfl⟩
 have HZA := Lib.hid hza
 rw [← hza]
 clear hza
 go_loopw [61] (fun i wr => ∃ k : Nat, k ≤ z.list.length ∧ i = .int .i64 k ∧ Hid (∃ a kk, TlS w P pb d (m0 || (z.list.take k).any fun q => (chL q.v).isNone) { ofCD 5 x with name := n1.getD [], version := n2.getD 0, changes := (z.list.take k).map fun q => chG q.v, a := a, c := kk } wr)) (fun i _ => z.list.length - (intOf i).toNat)
 case atStart => exact ⟨0, Nat.zero_le _, rfl, Lib.hid ⟨none, 0, by rw [List.take_zero]; simp only [List.any_nil, Bool.or_false]; exact HC4.out⟩⟩
 case round =>
  obtain ⟨k, hk, rfl, hL⟩ := hrel
  obtain ⟨ca, cc, hL⟩ := hL.out
  have HL := Lib.hid hL
  clear hL
  by_cases hlt : k < z.list.length
  ·
   obtain ⟨y, hy⟩ := get_some hlt
   have HX := Lib.hid hy
   have HZr := Lib.hid (val_same HC4.out.grown HL.out.grown HZV.out)
   have HXV := Lib.hid (HZr.out.kid y (List.mem_of_getElem? hy))
   have HYS : Hid (sizeV y.v ≤ 1048576) := Lib.hid (Nat.le_trans (list_size (v := z.v) (by rw [HZL.out]; exact List.mem_map_of_mem (List.mem_of_getElem? hy))) HZS.out)
   obtain ⟨b, off, hab, q0, q1, q2, q3, q4, q5⟩ := val_at HZr.out.row hy
   obtain rfl : za = some ⟨b, off, none⟩ := HZA.out.trans hab
   clear hy hab
   unfold strV at q3
   obtain ⟨cd, hcd⟩ : ∃ cd : CD, cd = { ofCD 5 x with name := n1.getD [], version := n2.getD 0, changes := (z.list.take k).map fun q => chG q.v, a := ca, c := cc } := ⟨_, rfl⟩
   obtain ⟨mm, hmm⟩ : ∃ mm, mm = (m0 || (z.list.take k).any fun q => (chL q.v).isNone) := ⟨_, rfl⟩
   rw [← hcd, ← hmm] at HL
   have HCD := Lib.hid hcd
   have HMM := Lib.hid hmm
   have HCL : Hid (cd.changes.length ≤ 1048576) := Lib.hid (by rw [hcd]; simp; have := HZN.out; omega)
   clear hcd hmm
   obtain ⟨gx, hgx⟩ : ∃ gx, gx = wr.heap.size := ⟨_, rfl⟩
   obtain ⟨W5, hW5⟩ : ∃ W5, W5 = wr.alloc (.cells #[.int .i64 y.sort, .bool y.on, .int .i64 y.n, .string ⟨y.text.toArray⟩, .slice y.a y.list.length y.c, .slice y.ka y.keys.length y.kc] 36) := ⟨_, rfl⟩
   have hgx2 : w.heap.size + 2 ≤ gx := by have := HL.out.rblk.lt; omega
   have HX1 : Hid (Blk W5.drew gx #[.int .i64 y.sort, .bool y.on, .int .i64 y.n, .string ⟨y.text.toArray⟩, .slice y.a y.list.length y.c, .slice y.ka y.keys.length y.kc] 36) := Lib.hid (by rw [hW5, hgx]; exact Blk.new rfl)
   have HS1 : Hid (TlS w P pb d mm cd W5.drew) := Lib.hid (by rw [hW5]; exact HL.out.ext (below_a1 _ _).drew)
   have HXV1 : Hid (ValAt W5.drew (PP w P pb) y) := Lib.hid (by rw [hW5]; exact HXV.out.ext (below_a1 _ _).drew)
   have hsz1 : w.heap.size + 2 ≤ W5.drew.heap.size := by have := HX1.out.lt; omega
   have hlz : (z.list.length : Int) ≤ 1048576 := by have := HZN.out; omega
   clear HZr
   go_upto_region 19 with (fail)
   rw [← hgx, ← hW5]
   clear hW5 hgx q0 q1 q2 q3 q4 q5 hlz
   refine wp_region_held_drew (S := (fun w' => Blk w' gx #[.int .i64 y.sort, .bool y.on, .int .i64 y.n, .string ⟨y.text.toArray⟩, .slice y.a y.list.length y.c, .slice y.ka y.keys.length y.kc] 36)) (by kernel_rfl) ?_ (fun hHeld => ?_)
   ·
    exact HX1.out
   refine wpAnyH_take (i := 0) (oi := ⟨some 65, _, _, _, _, _⟩) (v := ?_) rfl (by kernel_rfl) (by kernel_rfl) (by kernel_rfl) (fun _ _ _ h => h) (Or.inl ⟨by rfl, ?_⟩) (by assumption) ?_; rotate_left; focus (intro w hSw; (try dsimp only at hSw); first | (go_simp; done) | (go_simp; with_reducible rfl))
   try simp only [Act.put, List.setIfInBounds_toArray, List.set_cons_succ, List.set_cons_zero]
   refine wpAnyH_take (i := 2) (oi := ⟨some 67, _, _, _, _, _⟩) (v := ?_) rfl (by kernel_rfl) (by kernel_rfl) (by kernel_rfl) (fun _ _ _ h => h) (Or.inl ⟨by rfl, ?_⟩) (by assumption) ?_; rotate_left; focus (intro w hSw; (try dsimp only at hSw); first | (go_simp; done) | (go_simp; with_reducible rfl))
   try simp only [Act.put, List.setIfInBounds_toArray, List.set_cons_succ, List.set_cons_zero]
   refine wpAnyH_take (i := 3) (oi := ⟨some 68, _, _, _, _, _⟩) (v := ?_) rfl (by kernel_rfl) (by kernel_rfl) (by kernel_rfl) (fun _ _ _ h => h) (Or.inl ⟨by rfl, ?_⟩) (by assumption) ?_; rotate_left; focus (intro w hSw; (try dsimp only at hSw); obtain ⟨a0, a1, a2, a3, a4, a5⟩ := Blk.sixT hSw; first | (go_simp; done) | (go_simp; with_reducible rfl))
   try simp only [Act.put, List.setIfInBounds_toArray, List.set_cons_succ, List.set_cons_zero]
   refine wpAnyH_invF [66, 69, 70, 71, 72] [0, 2, 3] (TlI w P pb gx d y mm cd) (by kernel_rfl) (by rfl) (by kernel_rfl) (by kernel_rfl) (Nat.le_of_ble_eq_true (by kernel_rfl)) ?_ ?_ ?_ ?_
   ·
    intro D s W hJ
    exact hJ.xblk
   ·
    intro s
    exact TlI.start HS1.out hgx2 HX1.out HXV1.out hsz1 rfl rfl rfl rfl rfl
   ·
    refine InvAllF.skip (by kernel_rfl) ?_
    refine InvAllF.cons (o := ⟨some 66, _, _, _, _, _⟩) (by kernel_rfl) (fun D s W hD hdep hno hJ K hK => ?_) ?_
    ·
     have n6 : D 6 = false := hno 6 (by kernel_rfl)
     have n7 : D 7 = false := hno 7 (by kernel_rfl)
     have n8 : D 8 = false := hno 8 (by kernel_rfl)
     clear hdep hno
     simp only [setAll, List.foldl_cons, List.foldl_nil, Act.put, List.setIfInBounds_toArray, List.set_cons_succ, List.set_cons_zero]
     have b10 := (hJ.cblk n8).cell 10
     unfold cdC at b10
     simp only [List.getElem?_toArray, List.getElem?_cons_zero, List.getElem?_cons_succ] at b10
     have HJ := Lib.hid hJ
     clear hJ
     go_simp
     refine hK.out _ _ _ ?_ HJ.out.op1
     simp only [setAll, List.foldl_cons, List.foldl_nil, Act.put, List.setIfInBounds_toArray, List.set_cons_succ, List.set_cons_zero]
    refine InvAllF.skip (by kernel_rfl) ?_
    refine InvAllF.skip (by kernel_rfl) ?_
    refine InvAllF.cons (o := ⟨some 69, _, _, _, _, _⟩) (by kernel_rfl) (fun D s W hD hdep hno hJ K hK => ?_) ?_
    ·
     have n5 : D 5 = false := hno 5 (by kernel_rfl)
     have n6 : D 6 = false := hno 6 (by kernel_rfl)
     have n7 : D 7 = false := hno 7 (by kernel_rfl)
     have n8 : D 8 = false := hno 8 (by kernel_rfl)
     clear hdep hno
     simp only [setAll, List.foldl_cons, List.foldl_nil, Act.put, List.setIfInBounds_toArray, List.set_cons_succ, List.set_cons_zero]
     have hbk := hJ.pblk
     rw [hD] at hbk
     have h1 := change_any pb d mm y W hbk (hJ.xval.mono fun _ _ _ => trivial) HYS.out
     rw [VD.val6] at h1
     have H1 := Lib.hid h1
     clear h1 hbk
     have HJ := Lib.hid hJ
     clear hJ
     go_simp
     refine H1.out.mono ?_
     rintro e w2 ⟨rfl, hb2, hg2⟩
     refine hK.out _ _ _ ?_ (HJ.out.op4 n5 n6 hb2 hg2)
     simp only [setAll, List.foldl_cons, List.foldl_nil, Act.put, List.setIfInBounds_toArray, List.set_cons_succ, List.set_cons_zero]
    refine InvAllF.cons (o := ⟨some 70, _, _, _, _, _⟩) (by kernel_rfl) (fun D s W hD hdep hno hJ K hK => ?_) ?_
    ·
     have e4 : D 4 = true := hdep 4 (by kernel_rfl)
     have n6 : D 6 = false := hno 6 (by kernel_rfl)
     have n7 : D 7 = false := hno 7 (by kernel_rfl)
     have n8 : D 8 = false := hno 8 (by kernel_rfl)
     clear hdep hno
     simp only [setAll, List.foldl_cons, List.foldl_nil, Act.put, List.setIfInBounds_toArray, List.set_cons_succ, List.set_cons_zero]
     have HQ : Hid (s 69 = .agg #[.int .i64 (chG y.v).fl, .int .i64 (chG y.v).fu, .int .i64 (chG y.v).tl, .int .i64 (chG y.v).tu, .string ⟨(chG y.v).text.toArray⟩, .bool (chG y.v).whole]) := Lib.hid (hJ.s69 e4)
     have HJ := Lib.hid hJ
     clear hJ
     simp only [HQ.out]
     go_simp
     refine hK.out _ _ _ ?_ (HJ.out.op5 n6)
     simp only [HQ.out, setAll, List.foldl_cons, List.foldl_nil, Act.put, List.setIfInBounds_toArray, List.set_cons_succ, List.set_cons_zero]
    refine InvAllF.cons (o := ⟨some 71, _, _, _, _, _⟩) (by kernel_rfl) (fun D s W hD hdep hno hJ K hK => ?_) ?_
    ·
     have e1 : D 1 = true := hdep 1 (by kernel_rfl)
     have e4 : D 4 = true := hdep 4 (by kernel_rfl)
     have e5 : D 5 = true := hdep 5 (by kernel_rfl)
     have n7 : D 7 = false := hno 7 (by kernel_rfl)
     have n8 : D 8 = false := hno 8 (by kernel_rfl)
     clear hdep hno
     simp only [setAll, List.foldl_cons, List.foldl_nil, Act.put, List.setIfInBounds_toArray, List.set_cons_succ, List.set_cons_zero]
     have HS1x := Lib.hid (hJ.s66 e1)
     obtain ⟨g, h70, hg70, hb70⟩ := hJ.s70 e5 hD
     have HS2x := Lib.hid h70
     have HG := Lib.hid hb70
     clear h70 hb70 hg70
     have HJ := Lib.hid hJ
     clear hJ
     simp only [HS1x.out, HS2x.out]
     refine step_append_Own (act := ⟨_, []⟩) rfl (.tmp 66) (.tmp 70) 41 rfl (w.heap.size + 2) 82 _ 6 56 Tryz.underlying41 Tryz.infoEdit rfl (by decide) cd.a cd.changes.length cd.c _ (by simp [go_sem]) (HJ.out.own0 hD) (some ⟨g, 0, none⟩) 1 1 (chG y.v).cells (by simp [go_sem]) (row_blk HG.out rfl) (by intro u hu; simp [E.cells] at hu; rcases hu with rfl | rfl | rfl | rfl | rfl | rfl <;> rfl) (by have := HCL.out; unfold maxLen; omega) (by have := HCL.out; omega) HJ.out.b.sz ?_
     intro a5 c5 w5 ho5 hg5 hb5
     simp only [Act.put, List.setIfInBounds_toArray, List.set_cons_succ, List.set_cons_zero]
     refine hK.out _ _ _ ?_ (HJ.out.op6 hD n8 ho5 hg5)
     simp only [HS1x.out, HS2x.out, setAll, List.foldl_cons, List.foldl_nil, Act.put, List.setIfInBounds_toArray, List.set_cons_succ, List.set_cons_zero]
    refine InvAllF.cons (o := ⟨some 72, _, _, _, _, _⟩) (by kernel_rfl) (fun D s W hD hdep hno hJ K hK => ?_) ?_
    ·
     have e1 : D 1 = true := hdep 1 (by kernel_rfl)
     have e4 : D 4 = true := hdep 4 (by kernel_rfl)
     have e5 : D 5 = true := hdep 5 (by kernel_rfl)
     have e6 : D 6 = true := hdep 6 (by kernel_rfl)
     have n8 : D 8 = false := hno 8 (by kernel_rfl)
     clear hdep hno
     simp only [setAll, List.foldl_cons, List.foldl_nil, Act.put, List.setIfInBounds_toArray, List.set_cons_succ, List.set_cons_zero]
     have HJ := Lib.hid hJ
     clear hJ
     go_simp
     refine hK.out _ _ _ ?_ HJ.out.op7
     simp only [setAll, List.foldl_cons, List.foldl_nil, Act.put, List.setIfInBounds_toArray, List.set_cons_succ, List.set_cons_zero]
    refine InvAllF.cons (o := ⟨none, _, _, _, _, _⟩) (by kernel_rfl) (fun D s W hD hdep hno hJ K hK => ?_) ?_
    ·
     have e1 : D 1 = true := hdep 1 (by kernel_rfl)
     have e4 : D 4 = true := hdep 4 (by kernel_rfl)
     have e5 : D 5 = true := hdep 5 (by kernel_rfl)
     have e6 : D 6 = true := hdep 6 (by kernel_rfl)
     have e7 : D 7 = true := hdep 7 (by kernel_rfl)
     clear hdep hno
     simp only [setAll, List.foldl_cons, List.foldl_nil, Act.put, List.setIfInBounds_toArray, List.set_cons_succ, List.set_cons_zero]
     obtain ⟨a2, c2, q71, -⟩ := hJ.s71 e6
     have HQ := Lib.hid q71
     have HQ2 := Lib.hid (hJ.s72 e7)
     have b10 := (hJ.cblk hD).cell 10
     have f10 := (hJ.cblk hD).free 10
     unfold cdC at b10
     simp only [List.getElem?_toArray, List.getElem?_cons_zero, List.getElem?_cons_succ] at b10
     clear q71
     have HJ := Lib.hid hJ
     clear hJ
     simp only [HQ.out, HQ2.out]
     go_simp
     refine hK.out _ undef _ ?_ (HQ.out ▸ (HJ.out.op8 hD e6 _))
     simp only [HQ.out, HQ2.out, setAll, List.foldl_cons, List.foldl_nil, Act.put, List.setIfInBounds_toArray, List.set_cons_succ, List.set_cons_zero]
    exact InvAllF.nil
   ·
    intro D s W hD hJ
    have HE := Lib.hid (hJ.ends (hD 4 (by decide)) (hD 6 (by decide)) (hD 8 (by decide)))
    clear hJ hD
    simp only [setAll, List.foldl_cons, List.foldl_nil, Act.put, List.setIfInBounds_toArray, List.set_cons_succ, List.set_cons_zero]
    have hlz := HZN.out
    go_wp2
    go_roundw
    case rel => exact ⟨k + 1, by omega, by go_num, Lib.hid (by
     obtain ⟨a, kk, hE⟩ := HE.out
     refine ⟨a, kk, ?_⟩
     rw [HMM.out, HCD.out] at hE
     rw [take_snoc1 HX.out, List.map_append, List.any_append, List.map_singleton]
     simp only [List.any_cons, List.any_nil, Bool.or_false]
     rw [← Bool.or_assoc]
     exact hE)⟩
    case measure => simp [intOf]; omega
  ·
   have hkz : k = z.list.length := by omega
   obtain ⟨cd, hcd⟩ : ∃ cd : CD, cd = { ofCD 5 x with name := n1.getD [], version := n2.getD 0, changes := (z.list.take k).map fun q => chG q.v, a := ca, c := cc } := ⟨_, rfl⟩
   rw [← hcd] at HL
   have HCD := Lib.hid hcd
   have HKZ := Lib.hid hkz
   clear hcd hkz
   go_wp2_with (first | ((with_reducible show wpList _ _ _ (⟨some 80, _, _, _, _, _⟩ :: _) _ _); refine load_call rfl _ rfl w.heap.size rfl (cd) HL.out.cblk ?_) | ((with_reducible show wpList _ _ _ (⟨none, Op.store 43 _ _, _, _, _, _⟩ :: _) _ _); refine store_call rfl _ _ rfl (w.heap.size + 1) (cd) zeroCD rfl rfl HL.out.rblk ?_))
   exact tell_end (g := w.heap.size + 1) rfl (setRow_blk HL.out.rblk) (HL.out.fin (by rw [HM0.out, HKZ.out, List.take_length, ← (tl5_ends Hn1.out Hn2.out rfl).1, ← HZ.out, HZL.out, List.any_map]; rfl) (by rw [HCD.out]; show (0 : Int) ≤ 5; decide) (fun q hq => by rw [← (tl5_ends Hn1.out Hn2.out rfl).2 q hq, HCD.out, HKZ.out, List.take_length, ← HZ.out, HZL.out, List.map_map]; rfl))
end Go.Proofs.YthnbeebilomchaaGreatDoor

namespace Go.Proofs.YthnbeebilomchaaGreatDoor
open Go Go.RowKit

theorem tell_any (P : Nat → Prop) (k : Nat) (h1 : 1 ≤ k) (h9 : k ≤ 9) (pb : Nat) (d x : VD) (w : World) (hB : Blk w pb (prC d false) 96) (hv : ValAt w (fun g => g ≠ pb ∧ P g) d) (hx : ValAt w (fun g => g ≠ pb ∧ P g) x) (hs : sizeV d.v ≤ 1048576) :
    Calls Tryz.prog 48 #[.pointer (some ⟨pb, 0, none⟩), .agg (cdC (ofCD (k : Int) x))] w (TellE w P pb d (tellL k x.v d.v)) := by
  rcases (show k = 1 ∨ k = 2 ∨ k = 3 ∨ k = 4 ∨ k = 5 ∨ k = 6 ∨ k = 7 ∨ k = 8 ∨ k = 9 by omega) with rfl | rfl | rfl | rfl | rfl | rfl | rfl | rfl | rfl
  · exact tell_1 P pb d x w hB hv hx hs
  · exact tell_2 P pb d x w hB hv hx hs
  · exact tell_3 P pb d x w hB hv hx hs
  · exact tell_4 P pb d x w hB hv hx hs
  · exact tell_5 P pb d x w hB hv hx hs
  · exact tell_6 P pb d x w hB hv hx hs
  · exact tell_7 P pb d x w hB hv hx hs
  · exact tell_8 P pb d x w hB hv hx hs
  · exact tell_9 P pb d x w hB hv hx hs
def badB (n1 n2 : Option Nm) (x p : Option V) : Bool := (n1.isNone || n2.isNone) || n1.getD [] != v20 || (x.isSome && !idOk (x.getD .null)) || (p.isSome && (p.getD .null).sort != 5 && (p.getD .null).sort != 4)
def noB (k : Int) (asks : Bool) : Bool := decide (k ≤ 0) || (k == 1 || k == 2 || k == 7 || k == 8) != asks
theorem readC_bad {v : V} {n1 n2 : Option Nm} {x p : Option V} (h1 : n1 = gText v [kJson]) (h2 : n2 = gText v [kMethod]) (h3 : x = getV v [kId]) (h4 : p = getV v [kParams]) (hb : badB n1 n2 x p = true) : readC v = (42, C.zero) := by
  unfold readC
  rw [← h1, ← h2, ← h3, ← h4]
  cases n1 with
  | none => rfl
  | some a =>
    cases n2 with
    | none => rfl
    | some b =>
      simp only
      rw [if_pos]
      unfold badB at hb
      simp only [Option.isNone_some, Bool.or_self, Bool.false_or, Option.getD_some, Bool.or_eq_true] at hb
      rcases hb with (hb | hb) | hb
      · exact .inl (by simpa using hb)
      · refine .inr (.inl ?_)
        cases x with
        | none => cases hb
        | some y => simpa using hb
      · refine .inr (.inr ?_)
        cases p with
        | none => cases hb
        | some y => simpa using hb
theorem readC_good {v : V} {n1 n2 : Option Nm} {x p : Option V} (h1 : n1 = gText v [kJson]) (h2 : n2 = gText v [kMethod]) (h3 : x = getV v [kId]) (h4 : p = getV v [kParams]) (hb : badB n1 n2 x p = false) :
  readC v = (match indexK (n2.getD []) methodL with
   | none => (43, C.of 0 (x.getD .null))
   | some k => if k = 0 ∨ asksN k ≠ x.isSome then (43, C.of 0 (x.getD .null)) else match tellL k (x.getD .null) (p.getD .null) with
    | none => (44, C.of k (x.getD .null))
    | some c => (0, c)) := by
 unfold readC
 rw [← h1, ← h2, ← h3, ← h4]
 unfold badB at hb
 cases n1 with
 | none => cases hb
 | some a =>
  cases n2 with
  | none => cases hb
  | some b =>
   simp only [Option.isNone_some, Bool.or_self, Bool.false_or, Option.getD_some, Bool.or_eq_false_iff] at hb
   obtain ⟨⟨hb1, hb2⟩, hb3⟩ := hb
   simp only
   rw [if_neg]
   ·
    rfl
   ·
    rintro (h | h | h)
    ·
     exact h (by simpa using hb1)
    ·
     cases x with
     | none => cases h
     | some y => simp at h hb2; rw [hb2] at h; cases h
    ·
     cases p with
     | none => cases h
     | some y =>
      simp at h hb3
      exact h.2 (hb3 h.1)
theorem readC_no {v : V} {n1 n2 : Option Nm} {x p : Option V} (h1 : n1 = gText v [kJson]) (h2 : n2 = gText v [kMethod]) (h3 : x = getV v [kId]) (h4 : p = getV v [kParams]) (hb : badB n1 n2 x p = false) (hn : noB (indexI (n2.getD []) methodL) x.isSome = true) : readC v = (43, C.of 0 (x.getD .null)) := by
  rw [readC_good h1 h2 h3 h4 hb]
  unfold noB at hn
  cases hi : indexK (n2.getD []) methodL with
  | none => rfl
  | some k =>
    rw [indexI_some hi] at hn
    simp only
    have hk := get_lt9 hi
    rw [if_pos]
    by_cases h0 : k = 0
    · exact .inl h0
    · refine .inr ?_
      have hd : decide ((k : Int) ≤ 0) = false := by simp; omega
      rw [hd, Bool.false_or] at hn
      intro e
      rw [← e] at hn
      have : asksN k = (((k : Int) == 1) || ((k : Int) == 2) || ((k : Int) == 7) || ((k : Int) == 8)) := by
        unfold asksN
        rw [Bool.eq_iff_iff]; simp; omega
      rw [this] at hn
      simp at hn
theorem readC_yes {v : V} {n1 n2 : Option Nm} {x p : Option V} (h1 : n1 = gText v [kJson]) (h2 : n2 = gText v [kMethod]) (h3 : x = getV v [kId]) (h4 : p = getV v [kParams]) (hb : badB n1 n2 x p = false) (hn : noB (indexI (n2.getD []) methodL) x.isSome = false) :
  ∃ k : Nat, indexI (n2.getD []) methodL = k ∧ 1 ≤ k ∧ k ≤ 9 ∧ readC v = (match tellL k (x.getD .null) (p.getD .null) with | none => (44, C.of k (x.getD .null)) | some c => (0, c)) := by
 rw [readC_good h1 h2 h3 h4 hb]
 unfold noB at hn
 rw [Bool.or_eq_false_iff] at hn
 obtain ⟨hn1, hn2⟩ := hn
 cases hi : indexK (n2.getD []) methodL with
 | none => rw [indexI_none hi] at hn1; simp at hn1
 | some k =>
  rw [indexI_some hi] at hn1 hn2 ⊢
  have hk := get_lt9 hi
  have h0 : k ≠ 0 := by simp at hn1; omega
  refine ⟨k, rfl, by omega, by omega, ?_⟩
  simp only
  rw [if_neg]
  rintro (h | h)
  ·
   exact h0 h
  ·
   apply h
   have : asksN k = (((k : Int) == 1) || ((k : Int) == 2) || ((k : Int) == 7) || ((k : Int) == 8)) := by
    unfold asksN
    rw [Bool.eq_iff_iff]; simp; omega
   rw [this]
   simpa using hn2
def MsgE (w : World) (r : Int × C) (e : Ending) (w' : World) : Prop := ∃ c : CD, e = .returned (.tuple #[.agg (cdC c), .int .i64 r.1]) ∧ CallAt w' c ∧ 0 ≤ c.kind ∧ c.k = r.2 ∧ Below w.heap.size w w'
theorem below_row {B g : Nat} {w0 w : World} (hb : Below B w0 w) (hg : B ≤ g) (cs : Array Value) : Below B w0 (w.setRow g cs) := hb.trans ⟨rfl, rfl, rfl, by simp [World.setRow], fun k hk => setRow_far (by omega)⟩
theorem results_cell_tmp {P : Program} {fn : Func} {p q : Tmp} {ty : TypeId} (h : fn.results = #[.cell p ty, .tmp q]) (tmps : Array Value) (w : World) (g : Nat) (t : TypeId) (cs : Array Value) (fr : Nat × Nat) (d : TypeDesc) (u : Value)
    (hp : tmps.getD p undef = .pointer (some ⟨g, 0, none⟩)) (hq : tmps.getD q undef = u) (hg : w.heap[g]? = some (.cells cs t fr))
    (hu : P.underlying ty = some d) (hd : (match d with | .struct _ | .array _ _ => true | _ => false) = true) (hi : (P.info? ty).map (·.size) = some cs.size) :
    (results fn tmps).run P w = .ok (.tuple #[.agg cs, u]) w := by
  have hp' : tmps[p]?.getD undef = .pointer (some ⟨g, 0, none⟩) := by simpa using hp
  have hq' : tmps[q]?.getD undef = u := by simpa using hq
  simp [results, h, hp', hq', asAddr, run_loadVar_row w g t ty cs fr d hg hu hd hi]
theorem msg_end {W : World} {tm : Array Value} {R : Ending → World → Prop} {g : Nat} {c : CD} {u : Value} (h2 : tm.getD 2 undef = .pointer (some ⟨g, 0, none⟩)) (h3 : tm.getD 3 undef = u) (hB : Blk W g (cdC c) 43)
    (hR : R (.returned (.tuple #[.agg (cdC c), u])) W) : bodyPost Tryz.prog Tryz.f21 R .ret { tmps := tm, defers := [] } W := by
  obtain ⟨fs, h1⟩ := call_under
  exact bodyPost_ret (v := .tuple #[.agg (cdC c), u]) (results_cell_tmp Tryz.results21 tm W g _ _ _ _ u h2 h3 hB h1 rfl call_size) rfl hR
structure RdS (w : World) (v : VD) (m : Bool) (W : World) : Prop where
  below : Below w.heap.size w W
  vblk : Blk W w.heap.size #[.int .i64 v.sort, .bool v.on, .int .i64 v.n, .string ⟨v.text.toArray⟩, .slice v.a v.list.length v.c, .slice v.ka v.keys.length v.kc] 36
  rblk : Blk W (w.heap.size + 1) (cdC zeroCD) 43
  mblk : Blk W (w.heap.size + 2) (prC v m) 96
  val : ValAt W (fun g => g < w.heap.size) v
section
variable {w : World} {v : VD} {m m' : Bool} {W W' : World}
theorem RdS.ext (h : RdS w v m W) (hb : Below W.heap.size W W') : RdS w v m W' := ⟨h.below.trans (hb.mono h.below.size), h.vblk.ext hb, h.rblk.ext hb, h.mblk.ext hb, h.val.ext hb⟩
theorem RdS.vx (h : RdS w v m W) : ValAt W (fun g => g ≠ w.heap.size + 2) v := h.val.mono fun g h1 _ => by omega
theorem RdS.call (h : RdS w v m W) (hb : Blk W' (w.heap.size + 2) (prC v m') 96) (hg : W.grownBy W' (some (w.heap.size + 2))) : RdS w v m' W' :=
  ⟨⟨hg.os.trans h.below.os, hg.tape.trans h.below.tape, hg.output.trans h.below.output, Nat.le_trans h.below.size hg.size, fun k hk => (hg.block k (by have := h.below.size; omega) (by simp; omega)).trans (h.below.block k hk)⟩,
    h.vblk.grown hg (by simp), h.rblk.grown hg (by simp), hb, h.val.congr fun g h1 h2 => hg.block g h2 (by simp; omega)⟩
end
set_option maxHeartbeats 4000000 in
set_option maxRecDepth 20000 in
theorem msg_any (v : VD) (w : World) (hv : ValAt w (fun _ => True) v) (hs : sizeV v.v ≤ 1048576) : Calls Tryz.prog 21 #[v.val] w (MsgE w (readC v.v)) := by
 rw [VD.val6]
 obtain ⟨W0, hW0⟩ : ∃ W0, W0 = ((w.alloc (.cells #[.int .i64 v.sort, .bool v.on, .int .i64 v.n, .string ⟨v.text.toArray⟩, .slice v.a v.list.length v.c, .slice v.ka v.keys.length v.kc] 36)).alloc (.cells #[.int .i64 0, .int .i64 0, .bool false, .int .i64 0, .string { data := #[] }, .slice none 0 0, .slice none 0 0, .string { data := #[] }, .int .i64 0, .string { data := #[] }, .slice none 0 0, .int .i64 0, .int .i64 0, .int .i64 0, .bool false, .int .i64 0, .string { data := #[] }, .slice none 0 0, .slice none 0 0] 43)).alloc (.cells #[.int .i64 v.sort, .bool v.on, .int .i64 v.n, .string ⟨v.text.toArray⟩, .slice v.a v.list.length v.c, .slice v.ka v.keys.length v.kc, .bool false] 96) := ⟨_, rfl⟩
 have hb0 : Below w.heap.size w W0 := by rw [hW0]; exact ((below_a1 w _).alloc (by simp) _).alloc (by simp; omega) _
 have HS0 : Hid (RdS w v false W0) := Lib.hid ⟨hb0, by rw [hW0]; exact ((Blk.new rfl).alloc _).alloc _, by rw [hW0]; exact (Blk.new (by simp)).alloc _, by rw [hW0]; exact Blk.new (by simp), (hv.mono fun g _ h => h).ext hb0⟩
 have HSZ := Lib.hid hs
 clear hv hs hb0
 go_enter Tryz.func21, Tryz.ntmps21
 go_upto_region 2 with (fail)
 rw [← hW0]
 clear hW0
 obtain ⟨n1, hn1⟩ : ∃ q, q = gText v.v [kJson] := ⟨_, rfl⟩
 have Hn1 := Lib.hid hn1
 obtain ⟨n2, hn2⟩ : ∃ q, q = gText v.v [kMethod] := ⟨_, rfl⟩
 have Hn2 := Lib.hid hn2
 clear hn1 hn2
 go_wp2_with fail
 have HA1 := Lib.hid (HS0.out.ext (below_a1 W0 (.cells #[strV kJson] 9)))
 refine (ptext_any (w.heap.size + 2) v false (some ⟨W0.heap.size, 0, none⟩) 1 [kJson] _ HA1.out.mblk HA1.out.vx (row_blk (Blk.new rfl) rfl) (by decide) HSZ.out).mono ?_
 rw [← Hn1.out]
 rintro e w1 ⟨rfl, hb1, hg1⟩
 have HC1 := Lib.hid (HA1.out.call hb1 hg1)
 clear hb1 hg1 HA1 HS0
 go_wp2_with fail
 have HA2 := Lib.hid (HC1.out.ext (below_a1 w1 (.cells #[strV kMethod] 9)))
 refine (ptext_any (w.heap.size + 2) v (false || n1.isNone) (some ⟨w1.heap.size, 0, none⟩) 1 [kMethod] _ HA2.out.mblk HA2.out.vx (row_blk (Blk.new rfl) rfl) (by decide) HSZ.out).mono ?_
 rw [← Hn2.out]
 rintro e w2 ⟨rfl, hb2, hg2⟩
 have HC2 := Lib.hid (HA2.out.call hb2 hg2)
 rw [Bool.false_or] at HC2
 clear hb2 hg2 HA2 HC1
 go_upto_region 3 with (fail)
 have v0 := HC2.out.vblk.cell 0
 have v1 := HC2.out.vblk.cell 1
 have v2 := HC2.out.vblk.cell 2
 have v3 := HC2.out.vblk.cell 3
 have v4 := HC2.out.vblk.cell 4
 have v5 := HC2.out.vblk.cell 5
 simp only [List.getElem?_toArray, List.getElem?_cons_zero, List.getElem?_cons_succ] at v0 v1 v2 v3 v4 v5
 obtain ⟨xo, hxo⟩ : ∃ q, q = getV v.v [kId] := ⟨_, rfl⟩
 have Hxo := Lib.hid hxo
 obtain ⟨po, hpo⟩ : ∃ q, q = getV v.v [kParams] := ⟨_, rfl⟩
 have Hpo := Lib.hid hpo
 clear hxo hpo
 go_wp2_with fail
 have HA3 := Lib.hid (HC2.out.ext (below_a1 w2 (.cells #[strV kId] 9)))
 refine (get_w (fun g => g < w.heap.size) v (some ⟨w2.heap.size, 0, none⟩) 1 [kId] _ HA3.out.val (row_blk (Blk.new rfl) rfl) (by decide) HSZ.out).mono ?_
 rw [← Hxo.out]
 rintro e w3 ⟨x, asks, rfl, ha, hx, hxv, hbl⟩
 have HASK := Lib.hid ha.out
 have HX := Lib.hid hx.out
 clear ha hx
 obtain ⟨gx, hgx⟩ : ∃ gx, gx = w3.heap.size := ⟨_, rfl⟩
 obtain ⟨W4, hW4⟩ : ∃ W4, W4 = w3.alloc (.cells #[.int .i64 x.sort, .bool x.on, .int .i64 x.n, .string ⟨x.text.toArray⟩, .slice x.a x.list.length x.c, .slice x.ka x.keys.length x.kc] 36) := ⟨_, rfl⟩
 have HS4 : Hid (RdS w v (n1.isNone || n2.isNone) W4) := Lib.hid (by rw [hW4]; exact (HA3.out.ext hbl).ext (below_a1 _ _))
 have HBX : Hid (Blk W4 gx #[.int .i64 x.sort, .bool x.on, .int .i64 x.n, .string ⟨x.text.toArray⟩, .slice x.a x.list.length x.c, .slice x.ka x.keys.length x.kc] 36) := Lib.hid (by rw [hW4, hgx]; exact Blk.new rfl)
 have HXV : Hid (ValAt W4 (fun g => g < w.heap.size) x) := Lib.hid (by rw [hW4]; exact (hxv.ext hbl).ext (below_a1 _ _))
 clear hxv hbl HA3 HC2 v0 v1 v2 v3 v4 v5
 go_upto_region 4 with (fail)
 rw [← hgx, ← hW4]
 clear hW4 hgx
 have v0 := HS4.out.vblk.cell 0
 have v1 := HS4.out.vblk.cell 1
 have v2 := HS4.out.vblk.cell 2
 have v3 := HS4.out.vblk.cell 3
 have v4 := HS4.out.vblk.cell 4
 have v5 := HS4.out.vblk.cell 5
 simp only [List.getElem?_toArray, List.getElem?_cons_zero, List.getElem?_cons_succ] at v0 v1 v2 v3 v4 v5
 go_wp2_with fail
 have HA5 := Lib.hid (HS4.out.ext (below_a1 W4 (.cells #[strV kParams] 9)))
 refine (get_w (fun g => g < w.heap.size) v (some ⟨W4.heap.size, 0, none⟩) 1 [kParams] _ HA5.out.val (row_blk (Blk.new rfl) rfl) (by decide) HSZ.out).mono ?_
 rw [← Hpo.out]
 rintro e w5 ⟨p, has, rfl, ha, hp, hpv, hbl⟩
 have HHAS := Lib.hid ha.out
 have HP := Lib.hid hp.out
 clear ha hp
 obtain ⟨gp, hgp⟩ : ∃ gp, gp = w5.heap.size := ⟨_, rfl⟩
 obtain ⟨W6, hW6⟩ : ∃ W6, W6 = w5.alloc (.cells #[.int .i64 p.sort, .bool p.on, .int .i64 p.n, .string ⟨p.text.toArray⟩, .slice p.a p.list.length p.c, .slice p.ka p.keys.length p.kc] 36) := ⟨_, rfl⟩
 have HS6 : Hid (RdS w v (n1.isNone || n2.isNone) W6) := Lib.hid (by rw [hW6]; exact (HA5.out.ext hbl).ext (below_a1 _ _))
 have HBX6 : Hid (Blk W6 gx #[.int .i64 x.sort, .bool x.on, .int .i64 x.n, .string ⟨x.text.toArray⟩, .slice x.a x.list.length x.c, .slice x.ka x.keys.length x.kc] 36) := Lib.hid (by rw [hW6]; exact ((HBX.out.ext (below_a1 W4 (.cells #[strV kParams] 9))).ext hbl).alloc _)
 have HXV6 : Hid (ValAt W6 (fun g => g < w.heap.size) x) := Lib.hid (by rw [hW6]; exact ((HXV.out.ext (below_a1 W4 (.cells #[strV kParams] 9))).ext hbl).ext (below_a1 _ _))
 have HBP : Hid (Blk W6 gp #[.int .i64 p.sort, .bool p.on, .int .i64 p.n, .string ⟨p.text.toArray⟩, .slice p.a p.list.length p.c, .slice p.ka p.keys.length p.kc] 36) := Lib.hid (by rw [hW6, hgp]; exact Blk.new rfl)
 have HPV : Hid (ValAt W6 (fun g => g < w.heap.size) p) := Lib.hid (by rw [hW6]; exact (hpv.ext hbl).ext (below_a1 _ _))
 clear hpv hbl HA5 HS4 HBX HXV v0 v1 v2 v3 v4 v5
 go_upto_region 5 with (fail)
 rw [← hgp, ← hW6]
 clear hW6 hgp
 obtain ⟨bad, hbad⟩ : ∃ b, b = badB n1 n2 xo po := ⟨_, rfl⟩
 have HBAD := Lib.hid hbad
 obtain ⟨mm, hmm⟩ : ∃ b, b = (n1.isNone || n2.isNone) := ⟨_, rfl⟩
 have HMM := Lib.hid hmm
 obtain ⟨tn, htn⟩ : ∃ b, b = (n1.getD [] != v20) := ⟨_, rfl⟩
 have HTN := Lib.hid htn
 have HBAD2 : Hid (bad = (mm || tn || (asks && !idOk x.v) || (has && p.sort != 5 && p.sort != 4))) := Lib.hid (by rw [hbad, hmm, htn, HASK.out, HHAS.out, HX.out, ← vd_sort p, HP.out]; rfl)
 rw [← hmm] at HS6
 clear hbad hmm htn
 have m6 := HS6.out.mblk.cell 6
 unfold prC at m6
 obtain ⟨x0, x1, x2, x3, x4, x5⟩ := HBX6.out.sixT
 obtain ⟨p0, p1, p2, p3, p4, p5⟩ := HBP.out.sixT
 simp only [List.getElem?_toArray, List.getElem?_cons_zero, List.getElem?_cons_succ] at m6
 obtain ⟨told, htold⟩ : ∃ z : Nm, z = n1.getD [] := ⟨_, rfl⟩
 rw [← htold] at HTN ⊢
 clear htold
 go_cut [59] from 33 to 59 (fun u wq => u = .bool bad ∧ Hid (Below W6.heap.size W6 wq))
 case first =>
  cases mm with
  | true =>
   have HB : Hid (bad = true) := Lib.hid (by rw [HBAD2.out]; simp)
   go_wp2
   go_meet
   exact ⟨by rw [HB.out], Lib.hid (Below.refl _ _)⟩
  | false =>
   cases tn with
   | true =>
    have HB : Hid (bad = true) := Lib.hid (by rw [HBAD2.out]; simp)
    have t1 : (told == [50, 46, 48]) = false := by have := HTN.out; simpa [v20] using this.symm
    have t2 : (told != [50, 46, 48]) = true := by simpa using t1
    go_wp2
    go_meet
    exact ⟨by rw [HB.out], Lib.hid (Below.refl _ _)⟩
   | false =>
    obtain rfl : told = v20 := by have := HTN.out; simpa using this.symm
    unfold v20
    cases asks with
    | true =>
     obtain ⟨ib, hib⟩ : ∃ b, b = idOk x.v := ⟨_, rfl⟩
     have h1 := id_any x W6
     rw [VD.val6, ← hib] at h1
     have H1 := Lib.hid h1
     have HIB := Lib.hid hib
     clear h1 hib
     go_wp2_with fail
     refine H1.out.mono ?_
     rintro e wi ⟨rfl, hbi⟩
     have HBI := Lib.hid (hbi.mono (Nat.le_refl _))
     clear p0 p1 p2 p3 p4 p5 x0 x1 x2 x3 x4 x5 m6 H1
     obtain ⟨p0, -, -, -, -, -⟩ := (HBP.out.ext hbi).sixT
     clear hbi
     cases ib with
     | false =>
      have HB : Hid (bad = true) := Lib.hid (by rw [HBAD2.out, ← HIB.out]; simp)
      go_wp2
      go_meet
      exact ⟨by rw [HB.out], HBI⟩
     | true =>
      cases has with
      | false =>
       have HB : Hid (bad = false) := Lib.hid (by rw [HBAD2.out]; simp [← HIB.out])
       go_wp2
       go_meet
       exact ⟨by rw [HB.out], HBI⟩
      | true =>
       by_cases h5 : p.sort = 5
       ·
        have HB : Hid (bad = false) := Lib.hid (by rw [HBAD2.out, h5]; simp [← HIB.out])
        have s5 : (p.sort != 5) = false := by simpa using h5
        clear h5
        go_wp2
        go_meet
        exact ⟨by rw [HB.out], HBI⟩
       ·
        have s5 : (p.sort != 5) = true := by simpa using h5
        by_cases h4 : p.sort = 4
        ·
         have HB : Hid (bad = false) := Lib.hid (by rw [HBAD2.out, h4]; simp [← HIB.out])
         have s4 : (p.sort != 4) = false := by simpa using h4
         clear h4 h5
         go_wp2
         go_meet
         exact ⟨by rw [HB.out], HBI⟩
        ·
         have HB : Hid (bad = true) := Lib.hid (by rw [HBAD2.out]; simp [h5, h4])
         have s4 : (p.sort != 4) = true := by simpa using h4
         clear h4 h5
         go_wp2
         go_meet
         exact ⟨by rw [HB.out], HBI⟩
    | false =>
     have HBI : Hid (Below W6.heap.size W6 W6) := Lib.hid (Below.refl _ _)
     have HIB : Hid (false = false) := Lib.hid rfl
     clear p1 p2 p3 p4 p5 x0 x1 x2 x3 x4 x5
     cases has with
     | false =>
      have HB : Hid (bad = false) := Lib.hid (by rw [HBAD2.out]; simp)
      go_wp2
      go_meet
      exact ⟨by rw [HB.out], HBI⟩
     | true =>
      by_cases h5 : p.sort = 5
      ·
       have HB : Hid (bad = false) := Lib.hid (by rw [HBAD2.out, h5]; simp)
       have s5 : (p.sort != 5) = false := by simpa using h5
       clear h5
       go_wp2
       go_meet
       exact ⟨by rw [HB.out], HBI⟩
      ·
       have s5 : (p.sort != 5) = true := by simpa using h5
       by_cases h4 : p.sort = 4
       ·
        have HB : Hid (bad = false) := Lib.hid (by rw [HBAD2.out, h4]; simp)
        have s4 : (p.sort != 4) = false := by simpa using h4
        clear h4 h5
        go_wp2
        go_meet
        exact ⟨by rw [HB.out], HBI⟩
       ·
        have HB : Hid (bad = true) := Lib.hid (by rw [HBAD2.out]; simp [h5, h4])
        have s4 : (p.sort != 4) = true := by simpa using h4
        clear h4 h5
        go_wp2
        go_meet
        exact ⟨by rw [HB.out], HBI⟩
 case rest =>
  obtain ⟨rfl, HBc⟩ := hcut
  have HS7 := Lib.hid (HS6.out.ext HBc.out)
  have HBX7 := Lib.hid (HBX6.out.ext HBc.out)
  have HXV7 := Lib.hid (HXV6.out.ext HBc.out)
  have HBP7 := Lib.hid (HBP.out.ext HBc.out)
  have HPV7 := Lib.hid (HPV.out.ext HBc.out)
  clear HS6 HBX6 HXV6 HBP HPV HBc HBAD2 HTN m6 x0 x1 x2 x3 x4 x5 p0 p1 p2 p3 p4 p5
  cases bad with
  | true =>
   have HE : Hid (readC v.v = (42, C.zero)) := Lib.hid (readC_bad Hn1.out Hn2.out Hxo.out Hpo.out HBAD.out.symm)
   go_wp2_with ((with_reducible show wpList _ _ _ (⟨none, Op.store 43 (Operand.tmp 2) _, _, _, _, _⟩ :: _) _ _); refine store_call rfl _ _ rfl (w.heap.size + 1) (zeroCD) zeroCD rfl rfl HS7.out.rblk ?_)
   refine msg_end (g := w.heap.size + 1) rfl rfl (setRow_blk HS7.out.rblk) ?_
   rw [HE.out]
   exact ⟨zeroCD, rfl, ⟨.leaf, .leaf, Row.nil _ _ _⟩, by show (0 : Int) ≤ 0; decide, rfl, below_row HS7.out.below (by omega) _⟩
  | false =>
   obtain ⟨name, hname⟩ : ∃ q, q = n2.getD [] := ⟨_, rfl⟩
   rw [← hname]
   have HNAME := Lib.hid hname
   obtain ⟨i, hi⟩ : ∃ q, q = indexI name methodL := ⟨_, rfl⟩
   have HI := Lib.hid hi
   clear hname hi
   go_wp2_with fail
   have hm := methods_any wc
   simp only [methodVs, methodL, List.map_cons, List.map_nil, strV] at hm
   refine hm.mono ?_
   clear hm
   rintro e w8 ⟨rfl, hb8⟩
   obtain ⟨g9, hg9⟩ : ∃ q, q = w8.heap.size := ⟨_, rfl⟩
   obtain ⟨w9, hw9⟩ : ∃ q, q = w8.alloc (.cells #[.string { data := #[] }, .string { data := #[105, 110, 105, 116, 105, 97, 108, 105, 122, 101] }, .string { data := #[115, 104, 117, 116, 100, 111, 119, 110] }, .string { data := #[101, 120, 105, 116] }, .string { data := #[116, 101, 120, 116, 68, 111, 99, 117, 109, 101, 110, 116, 47, 100, 105, 100, 79, 112, 101, 110] }, .string { data := #[116, 101, 120, 116, 68, 111, 99, 117, 109, 101, 110, 116, 47, 100, 105, 100, 67, 104, 97, 110, 103, 101] }, .string { data := #[116, 101, 120, 116, 68, 111, 99, 117, 109, 101, 110, 116, 47, 100, 105, 100, 67, 108, 111, 115, 101] }, .string { data := #[116, 101, 120, 116, 68, 111, 99, 117, 109, 101, 110, 116, 47, 104, 111, 118, 101, 114] }, .string { data := #[116, 101, 120, 116, 68, 111, 99, 117, 109, 101, 110, 116, 47, 100, 105, 97, 103, 110, 111, 115, 116, 105, 99] }, .string { data := #[36, 47, 99, 97, 110, 99, 101, 108, 82, 101, 113, 117, 101, 115, 116] }] 76) := ⟨_, rfl⟩
   have hb9 : Below wc.heap.size wc w9 := by rw [hw9]; exact hb8.alloc hb8.size _
   have HRM : Hid (Row w9 1 (some ⟨g9, 0, none⟩) 10 (methodL.map strV)) := Lib.hid (by rw [hw9, hg9]; exact row_blk (xs := methodL.map strV) (Blk.new rfl) rfl)
   have HS8 := Lib.hid (HS7.out.ext hb9)
   have HBX8 := Lib.hid (HBX7.out.ext hb9)
   have HXV8 := Lib.hid (HXV7.out.ext hb9)
   have HBP8 := Lib.hid (HBP7.out.ext hb9)
   have HPV8 := Lib.hid (HPV7.out.ext hb9)
   go_upto_region 8 with (fail)
   rw [← hg9, ← hw9]
   clear hw9 hg9 hb9 hb8 HS7 HBX7 HXV7 HBP7 HPV7
   go_wp2_with fail
   refine (sindex_any (some ⟨g9, 0, none⟩) 10 methodL name w9 HRM.out (by decide)).mono ?_
   rw [← HI.out]
   rintro e w10 ⟨rfl, hb10⟩
   have HS9 := Lib.hid (HS8.out.ext hb10)
   have HBX9 := Lib.hid (HBX8.out.ext hb10)
   have HXV9 := Lib.hid (HXV8.out.ext hb10)
   have HBP9 := Lib.hid (HBP8.out.ext hb10)
   have HPV9 := Lib.hid (HPV8.out.ext hb10)
   clear hb10 HS8 HBX8 HXV8 HBP8 HPV8 HRM
   by_cases hi0 : i ≤ 0
   ·
    have HNO : Hid (noB i asks = true) := Lib.hid (by unfold noB; simp [hi0])
    have HE : Hid (readC v.v = (43, C.of 0 x.v)) := Lib.hid (by rw [readC_no Hn1.out Hn2.out Hxo.out Hpo.out HBAD.out.symm (by rw [← HNAME.out, ← HI.out, ← HASK.out]; exact HNO.out), HX.out])
    have x0 := HBX9.out.cell 0
    have x1 := HBX9.out.cell 1
    have x2 := HBX9.out.cell 2
    have x3 := HBX9.out.cell 3
    have x4 := HBX9.out.cell 4
    have x5 := HBX9.out.cell 5
    simp only [List.getElem?_toArray, List.getElem?_cons_zero, List.getElem?_cons_succ] at x0 x1 x2 x3 x4 x5
    go_wp2_with ((with_reducible show wpList _ _ _ (⟨none, Op.store 43 (Operand.tmp 2) _, _, _, _, _⟩ :: _) _ _); refine store_call rfl _ _ rfl (w.heap.size + 1) (ofCD 0 x) zeroCD rfl rfl HS9.out.rblk ?_)
    refine msg_end (g := w.heap.size + 1) rfl rfl (setRow_blk HS9.out.rblk) ?_
    rw [HE.out]
    exact ⟨ofCD 0 x, rfl, ⟨(HXV9.out.congr fun g h1 _ => setRow_far (by omega)).mono fun _ _ _ => trivial, .leaf, Row.nil _ _ _⟩, by show (0 : Int) ≤ 0; decide, rfl, below_row HS9.out.below (by omega) _⟩
   ·
    have d0 : decide (i ≤ 0) = false := by simpa using hi0
    obtain ⟨rq, hrq⟩ : ∃ q, q = (i == 1 || i == 2 || i == 7 || i == 8) := ⟨_, rfl⟩
    have hq := request_any i w10
    rw [← hrq] at hq
    have HQ := Lib.hid hq
    obtain ⟨ne, hne⟩ : ∃ q, q = (rq != asks) := ⟨_, rfl⟩
    have HNO0 : Hid (noB i asks = ne) := Lib.hid (by unfold noB; rw [d0, ← hrq, hne]; rfl)
    have HNE := Lib.hid hne
    clear hq hrq hne
    go_wp2_with fail
    refine HQ.out.mono ?_
    rintro e w11 ⟨rfl, hb11⟩
    have HS9' := Lib.hid (HS9.out.ext hb11)
    have HBX9' := Lib.hid (HBX9.out.ext hb11)
    have HXV9' := Lib.hid (HXV9.out.ext hb11)
    have HBP9' := Lib.hid (HBP9.out.ext hb11)
    have HPV9' := Lib.hid (HPV9.out.ext hb11)
    clear hb11 HS9 HBX9 HXV9 HBP9 HPV9 HQ
    have HS9 := HS9'
    clear HS9'
    have HBX9 := HBX9'
    clear HBX9'
    have HXV9 := HXV9'
    clear HXV9'
    have HBP9 := HBP9'
    clear HBP9'
    have HPV9 := HPV9'
    clear HPV9'
    cases ne with
    | true =>
     have HNO : Hid (noB i asks = true) := HNO0
     have hne : (rq == asks) = false := by have := HNE.out.symm; simpa using this
     have HE : Hid (readC v.v = (43, C.of 0 x.v)) := Lib.hid (by rw [readC_no Hn1.out Hn2.out Hxo.out Hpo.out HBAD.out.symm (by rw [← HNAME.out, ← HI.out, ← HASK.out]; exact HNO.out), HX.out])
     have x0 := HBX9.out.cell 0
     have x1 := HBX9.out.cell 1
     have x2 := HBX9.out.cell 2
     have x3 := HBX9.out.cell 3
     have x4 := HBX9.out.cell 4
     have x5 := HBX9.out.cell 5
     simp only [List.getElem?_toArray, List.getElem?_cons_zero, List.getElem?_cons_succ] at x0 x1 x2 x3 x4 x5
     go_wp2_with ((with_reducible show wpList _ _ _ (⟨none, Op.store 43 (Operand.tmp 2) _, _, _, _, _⟩ :: _) _ _); refine store_call rfl _ _ rfl (w.heap.size + 1) (ofCD 0 x) zeroCD rfl rfl HS9.out.rblk ?_)
     refine msg_end (g := w.heap.size + 1) rfl rfl (setRow_blk HS9.out.rblk) ?_
     rw [HE.out]
     exact ⟨ofCD 0 x, rfl, ⟨(HXV9.out.congr fun g h1 _ => setRow_far (by omega)).mono fun _ _ _ => trivial, .leaf, Row.nil _ _ _⟩, by show (0 : Int) ≤ 0; decide, rfl, below_row HS9.out.below (by omega) _⟩
    | false =>
     have HNO : Hid (noB i asks = false) := HNO0
     have hne : (rq == asks) = true := by have := HNE.out.symm; simpa using this
     obtain ⟨k, hk, hk1, hk9, hrd⟩ := readC_yes Hn1.out Hn2.out Hxo.out Hpo.out HBAD.out.symm (by rw [← HNAME.out, ← HI.out, ← HASK.out]; exact HNO.out)
     rw [← HNAME.out, ← HI.out] at hk
     rw [← HX.out, ← HP.out] at hrd
     have HRD := Lib.hid hrd
     have HK19 := Lib.hid (And.intro hk1 hk9)
     clear hrd hk1 hk9
     subst hk
     have x0 := HBX9.out.cell 0
     have x1 := HBX9.out.cell 1
     have x2 := HBX9.out.cell 2
     have x3 := HBX9.out.cell 3
     have x4 := HBX9.out.cell 4
     have x5 := HBX9.out.cell 5
     simp only [List.getElem?_toArray, List.getElem?_cons_zero, List.getElem?_cons_succ] at x0 x1 x2 x3 x4 x5
     have p0 := HBP9.out.cell 0
     have p1 := HBP9.out.cell 1
     have p2 := HBP9.out.cell 2
     have p3 := HBP9.out.cell 3
     have p4 := HBP9.out.cell 4
     have p5 := HBP9.out.cell 5
     simp only [List.getElem?_toArray, List.getElem?_cons_zero, List.getElem?_cons_succ] at p0 p1 p2 p3 p4 p5
     have HPS : Hid (sizeV p.v ≤ 1048576) := Lib.hid (by
      rw [HP.out, Hpo.out]
      cases hg : getV v.v [kParams] with
      | none => exact Nat.le_trans (by show sizeV V.null ≤ sizeV v.v; cases v.v; simp [V.null, sizeV, sizesV]; omega) HSZ.out
      | some y => exact Nat.le_trans (getV_size _ hg) HSZ.out)
     go_upto_region 12 with (fail)
     obtain ⟨gq, hgq⟩ : ∃ q, q = w11.heap.size := ⟨_, rfl⟩
     obtain ⟨W10, hW10⟩ : ∃ q, q = w11.alloc (.cells #[.int .i64 p.sort, .bool p.on, .int .i64 p.n, .string ⟨p.text.toArray⟩, .slice p.a p.list.length p.c, .slice p.ka p.keys.length p.kc, .bool false] 96) := ⟨_, rfl⟩
     have HS10 : Hid (RdS w v mm W10) := Lib.hid (by rw [hW10]; exact HS9.out.ext (below_a1 _ _))
     have HBX10 : Hid (Blk W10 gx #[.int .i64 x.sort, .bool x.on, .int .i64 x.n, .string ⟨x.text.toArray⟩, .slice x.a x.list.length x.c, .slice x.ka x.keys.length x.kc] 36) := Lib.hid (by rw [hW10]; exact HBX9.out.alloc _)
     have HBQ : Hid (Blk W10 gq (prC p false) 96) := Lib.hid (by rw [hW10, hgq]; exact Blk.new rfl)
     have hgq2 : w.heap.size + 2 < gq := by have := HS9.out.mblk.lt; omega
     have HGX : Hid (gx ≠ gq) := Lib.hid (by have := HBX9.out.lt; omega)
     have HXV10 : Hid (ValAt W10 (fun g => g ≠ gq ∧ g < w.heap.size) x) := Lib.hid (by rw [hW10]; exact (HXV9.out.mono fun g h1 _ => ⟨by omega, h1⟩).ext (below_a1 _ _))
     have HPV10 : Hid (ValAt W10 (fun g => g ≠ gq ∧ g < w.heap.size) p) := Lib.hid (by rw [hW10]; exact (HPV9.out.mono fun g h1 _ => ⟨by omega, h1⟩).ext (below_a1 _ _))
     rw [← hgq, ← hW10]
     clear hW10 hgq HS9 HBX9 HBP9 HXV9 HPV9 x0 x1 x2 x3 x4 x5 p0 p1 p2 p3 p4 p5
     have x0 := HBX10.out.cell 0
     have x1 := HBX10.out.cell 1
     have x2 := HBX10.out.cell 2
     have x3 := HBX10.out.cell 3
     have x4 := HBX10.out.cell 4
     have x5 := HBX10.out.cell 5
     simp only [List.getElem?_toArray, List.getElem?_cons_zero, List.getElem?_cons_succ] at x0 x1 x2 x3 x4 x5
     go_wp2_with fail
     refine (tell_any (fun g => g < w.heap.size) k HK19.out.1 HK19.out.2 gq p x W10 HBQ.out HPV10.out HXV10.out HPS.out).mono ?_
     rintro e wt ⟨hbq, hg11, c, rfl, hca, hck, hcy⟩
     have hB11 : Below gq W10 wt := ⟨hg11.os, hg11.tape, hg11.output, hg11.size, fun j hj => hg11.block j (by have := HBQ.out.lt; omega) (by simp; omega)⟩
     have HS11 : Hid (RdS w v mm wt) := Lib.hid ⟨HS10.out.below.trans (hB11.mono (by omega)), HS10.out.vblk.grown hg11 (by simp; omega), HS10.out.rblk.grown hg11 (by simp; omega), HS10.out.mblk.grown hg11 (by simp; omega), HS10.out.val.congr fun g h1 h2 => hg11.block g h2 (by simp; omega)⟩
     have HBX11 : Hid (Blk wt gx #[.int .i64 x.sort, .bool x.on, .int .i64 x.n, .string ⟨x.text.toArray⟩, .slice x.a x.list.length x.c, .slice x.ka x.keys.length x.kc] 36) := Lib.hid (HBX10.out.grown hg11 (by simpa using HGX.out))
     have HXV11 : Hid (ValAt wt (fun g => g < w.heap.size) x) := Lib.hid ((HXV10.out.congr fun g h1 h2 => hg11.block g h2 (by simpa using h1.1)).mono fun g h1 _ => h1.2)
     have HBQ11 := Lib.hid hbq
     have HCA := Lib.hid hca
     have HCK := Lib.hid hck
     have HCY := Lib.hid hcy
     have HSZ11 : Hid (w.heap.size + 2 < W10.heap.size ∧ W10.heap.size ≤ wt.heap.size) := Lib.hid ⟨HS10.out.mblk.lt, hg11.size⟩
     clear hbq hg11 hca hck hcy hB11 HS10 HBX10 HXV10 HPV10 HBQ x0 x1 x2 x3 x4 x5
     obtain ⟨W12, hW12⟩ : ∃ q, q = (wt.alloc (.cells #[.int .i64 0, .int .i64 0, .bool false, .int .i64 0, .string { data := #[] }, .slice none 0 0, .slice none 0 0, .string { data := #[] }, .int .i64 0, .string { data := #[] }, .slice none 0 0, .int .i64 0, .int .i64 0, .int .i64 0, .bool false, .int .i64 0, .string { data := #[] }, .slice none 0 0, .slice none 0 0] 43)).setRow wt.heap.size (cdC c) := ⟨_, rfl⟩
     have HE12 : Hid (Below wt.heap.size wt W12) := Lib.hid (by rw [hW12]; exact below_row (below_a1 _ _) (Nat.le_refl _) _)
     have HBC : Hid (Blk W12 wt.heap.size (cdC c) 43) := Lib.hid (by rw [hW12]; exact setRow_blk (cur := #[.int .i64 0, .int .i64 0, .bool false, .int .i64 0, .string { data := #[] }, .slice none 0 0, .slice none 0 0, .string { data := #[] }, .int .i64 0, .string { data := #[] }, .slice none 0 0, .int .i64 0, .int .i64 0, .int .i64 0, .bool false, .int .i64 0, .string { data := #[] }, .slice none 0 0, .slice none 0 0]) (Blk.new rfl))
     have HS12 := Lib.hid (HS11.out.ext HE12.out)
     have HBX12 := Lib.hid (HBX11.out.ext HE12.out)
     have HXV12 := Lib.hid (HXV11.out.ext HE12.out)
     have HBQ12 := Lib.hid (HBQ11.out.ext HE12.out)
     have HCA12 : Hid (CallP W12 (fun g => g < w.heap.size ∨ W10.heap.size ≤ g) c) := Lib.hid ⟨HCA.out.id.ext HE12.out, HCA.out.other.ext HE12.out, HCA.out.row.ext HE12.out, HCA.out.blk⟩
     have x0 := HBX12.out.cell 0
     have x1 := HBX12.out.cell 1
     have x2 := HBX12.out.cell 2
     have x3 := HBX12.out.cell 3
     have x4 := HBX12.out.cell 4
     have x5 := HBX12.out.cell 5
     simp only [List.getElem?_toArray, List.getElem?_cons_zero, List.getElem?_cons_succ] at x0 x1 x2 x3 x4 x5
     have q6 := HBQ12.out.cell 6
     unfold prC at q6
     simp only [List.getElem?_toArray, List.getElem?_cons_zero, List.getElem?_cons_succ] at q6
     obtain ⟨r, hr⟩ : ∃ r, r = tellL k x.v p.v := ⟨_, rfl⟩
     have HR := Lib.hid hr
     rw [← hr] at q6
     clear hr
     cases r with
     | none =>
      have HE : Hid (readC v.v = (44, C.of k x.v)) := Lib.hid (by rw [HRD.out, ← HR.out])
      rw [Option.isNone_none] at q6
      go_wp2_with (first | ((with_reducible show wpList _ _ _ (⟨none, Op.store 43 (Operand.tmp 14) _, _, _, _, _⟩ :: _) _ _); refine store_call rfl _ _ rfl wt.heap.size c zeroCD rfl rfl (Blk.new rfl) ?_; rw [← hW12]; clear hW12) | ((with_reducible show wpList _ _ _ (⟨none, Op.store 43 (Operand.tmp 2) _, _, _, _, _⟩ :: _) _ _); refine store_call rfl _ _ rfl (w.heap.size + 1) (ofCD k x) zeroCD rfl rfl HS12.out.rblk ?_))
      refine msg_end (g := w.heap.size + 1) rfl rfl (setRow_blk HS12.out.rblk) ?_
      rw [HE.out]
      exact ⟨ofCD k x, rfl, ⟨(HXV12.out.congr fun g h1 _ => setRow_far (by omega)).mono fun _ _ _ => trivial, .leaf, Row.nil _ _ _⟩, by show (0 : Int) ≤ (k : Int); omega, by show CD.k _ = C.of k x.v; simp [CD.k, ofCD, zeroCD, C.of, C.zero]; rfl, below_row HS12.out.below (by omega) _⟩
     | some y =>
      have HE : Hid (readC v.v = (0, y)) := Lib.hid (by rw [HRD.out, ← HR.out])
      rw [Option.isNone_some] at q6
      go_wp2_with (first | ((with_reducible show wpList _ _ _ (⟨none, Op.store 43 (Operand.tmp 14) _, _, _, _, _⟩ :: _) _ _); refine store_call rfl _ _ rfl wt.heap.size c zeroCD rfl rfl (Blk.new rfl) ?_; rw [← hW12]; clear hW12) | ((with_reducible show wpList _ _ _ (⟨some 90, _, _, _, _, _⟩ :: _) _ _); refine load_call rfl _ rfl wt.heap.size rfl c HBC.out ?_) | ((with_reducible show wpList _ _ _ (⟨none, Op.store 43 (Operand.tmp 2) _, _, _, _, _⟩ :: _) _ _); refine store_call rfl _ _ rfl (w.heap.size + 1) (c) zeroCD rfl rfl HS12.out.rblk ?_))
      refine msg_end (g := w.heap.size + 1) rfl rfl (setRow_blk HS12.out.rblk) ?_
      rw [HE.out]
      have hw1 := HSZ11.out.1
      have hne : ∀ g, (g < w.heap.size ∨ W10.heap.size ≤ g) → g ≠ w.heap.size + 1 := fun g hg => by omega
      exact ⟨c, rfl, ⟨(HCA12.out.id.congr fun g h1 _ => setRow_far (hne g h1)).mono fun _ _ _ => trivial, (HCA12.out.other.congr fun g h1 _ => setRow_far (hne g h1)).mono fun _ _ _ => trivial, HCA12.out.row.congr fun g h0 h1 _ => setRow_far (hne g (HCA12.out.blk g (Nat.pos_of_mul_pos_right h0) h1))⟩, HCK.out, HCY.out y HR.out.symm, below_row HS12.out.below (by omega) _⟩
end Go.Proofs.YthnbeebilomchaaGreatDoor

namespace Go.Proofs.YthnbeebilomchaaGreatDoor
open Go Go.RowKit

def edB (a b : E) : Bool := a.fl == b.fl && a.fu == b.fu && a.tl == b.tl && a.tu == b.tu && a.text == b.text && a.whole == b.whole
theorem edB_iff (a b : E) : edB a b = true ↔ a = b := by
  obtain ⟨a1, a2, a3, a4, a5, a6⟩ := a
  obtain ⟨b1, b2, b3, b4, b5, b6⟩ := b
  simp [edB, and_assoc]
def eqEs : List E → List E → Bool
  | [], [] => true
  | a :: l, b :: m => edB a b && eqEs l m
  | _, _ => false
theorem eqEs_iff : ∀ l m : List E, eqEs l m = true ↔ l = m
  | [], [] => by simp [eqEs]
  | [], b :: m => by simp [eqEs]
  | a :: l, [] => by simp [eqEs]
  | a :: l, b :: m => by rw [eqEs, Bool.and_eq_true, edB_iff, eqEs_iff l m, List.cons.injEq]
set_option maxHeartbeats 4000000 in
theorem neq_edit (a b : E) (w : World) : (binOp .neq 82 (.agg #[.int .i64 a.fl, .int .i64 a.fu, .int .i64 a.tl, .int .i64 a.tu, .string ⟨a.text.toArray⟩, .bool a.whole]) (.agg #[.int .i64 b.fl, .int .i64 b.fu, .int .i64 b.tl, .int .i64 b.tu, .string ⟨b.text.toArray⟩, .bool b.whole])).run Tryz.prog w = .ok (.bool (!edB a b)) w := by
 unfold edB
 by_cases h1 : a.fl = b.fl
 ·
  by_cases h2 : a.fu = b.fu
  ·
   by_cases h3 : a.tl = b.tl
   ·
    by_cases h4 : a.tu = b.tu
    ·
     by_cases h5 : a.text = b.text
     ·
      by_cases h6 : a.whole = b.whole
      ·
       simp [binOp, Op.equal, Op.maxDepth, go_sem, h1, h2, h3, h4, h5, h6]
      ·
       simp [binOp, Op.equal, Op.maxDepth, go_sem, h1, h2, h3, h4, h5, h6]
     ·
      simp [binOp, Op.equal, Op.maxDepth, go_sem, h1, h2, h3, h4, h5]
    ·
     simp [binOp, Op.equal, Op.maxDepth, go_sem, h1, h2, h3, h4]
   ·
    simp [binOp, Op.equal, Op.maxDepth, go_sem, h1, h2, h3]
  ·
   simp [binOp, Op.equal, Op.maxDepth, go_sem, h1, h2]
 ·
  simp [binOp, Op.equal, Op.maxDepth, go_sem, h1]
theorem eql_place (a b c d : Int) (w : World) : (binOp .eql 29 (.agg #[.int .i64 a, .int .i64 b]) (.agg #[.int .i64 c, .int .i64 d])).run Tryz.prog w = .ok (.bool (a == c && b == d)) w := by
  by_cases h1 : a = c <;> by_cases h2 : b = d <;> simp [binOp, Op.equal, Op.maxDepth, go_sem, h1, h2]
theorem edit_at {w : World} {a : Option Addr} {l : List E} (h : Row w 6 a l.length (l.flatMap E.cells)) {i : Nat} {x : E} (hx : l[i]? = some x) :
    ∃ b off, a = some ⟨b, off, none⟩ ∧ w.cell? ⟨b, off + i * 6, none⟩ = some (.int .i64 x.fl) ∧ w.cell? ⟨b, off + i * 6 + 1, none⟩ = some (.int .i64 x.fu) ∧ w.cell? ⟨b, off + i * 6 + 2, none⟩ = some (.int .i64 x.tl) ∧
      w.cell? ⟨b, off + i * 6 + 3, none⟩ = some (.int .i64 x.tu) ∧ w.cell? ⟨b, off + i * 6 + 4, none⟩ = some (.string ⟨x.text.toArray⟩) ∧ w.cell? ⟨b, off + i * 6 + 5, none⟩ = some (.bool x.whole) := by
  obtain ⟨b, off, ha, hc⟩ := Row.elem E.len (by decide) h hx
  exact ⟨b, off, ha, hc 0 (by decide), hc 1 (by decide), hc 2 (by decide), hc 3 (by decide), hc 4 (by decide), hc 5 (by decide)⟩
theorem eqEs_step {l m : List E} {k : Nat} {x y : E} (h : l.take k = m.take k) (hx : l[k]? = some x) (hy : m[k]? = some y) (he : edB x y = true) : l.take (k + 1) = m.take (k + 1) := by
  rw [take_snoc1 hx, take_snoc1 hy, h, (edB_iff x y).1 he]
theorem eqEs_no {l m : List E} {k : Nat} {x y : E} (hx : l[k]? = some x) (hy : m[k]? = some y) (he : edB x y = false) : eqEs l m = false := by
  cases h : eqEs l m with
  | false => rfl
  | true =>
    rw [eqEs_iff] at h
    subst h
    rw [hx] at hy
    cases hy
    rw [(edB_iff x x).2 rfl] at he
    cases he
set_option maxHeartbeats 2000000 in
set_option maxRecDepth 20000 in
theorem equalE_any (a b : Option Addr) (ca cb : Nat) (l m : List E) (w : World) (hl : Row w 6 a l.length (l.flatMap E.cells)) (hm : Row w 6 b m.length (m.flatMap E.cells)) (hn : l.length ≤ 1048576) (hn2 : m.length ≤ 1048576) :
  Calls Tryz.prog 56 #[.slice a l.length ca, .slice b m.length cb] w (Bo w (eqEs l m)) := by
 have HL := Lib.hid hl
 have HM := Lib.hid hm
 obtain ⟨q, hq⟩ : ∃ q, q = eqEs l m := ⟨_, rfl⟩
 rw [← hq]
 have HQ := Lib.hid hq
 clear hl hm hq
 by_cases hlen : l.length = m.length
 ·
  have hb : ((l.length : Int) == (m.length : Int)) = true := by simp [hlen]
  have HLEN := Lib.hid hlen
  obtain ⟨n, hnn⟩ : ∃ n, n = m.length := ⟨_, rfl⟩
  have hnl : l.length = n := by rw [hnn, hlen]
  rw [← hnn] at hn2
  rw [hnl, ← hnn] at hb
  rw [hnl, ← hnn]
  have HN := Lib.hid (And.intro hnl hnn)
  clear hlen hnl hnn hn
  go_enter Tryz.func56, Tryz.ntmps56
  go_wp2
  go_loopw [4, 13] (fun u i wr => ∃ k : Nat, k ≤ n ∧ i = .int .i64 k ∧ Hid (l.take k = m.take k) ∧ Hid (Below w.heap.size w wr)) (fun _ i _ => n - (intOf i).toNat)
  case atStart => exact ⟨0, Nat.zero_le _, rfl, Lib.hid rfl, Lib.hid (Below.refl _ _)⟩
  case round =>
   obtain ⟨k, hk, rfl, HT, HB⟩ := hrel
   by_cases hlt : k < n
   ·
    obtain ⟨x, hx⟩ := get_some (l := l) (i := k) (by rw [HN.out.1]; exact hlt)
    obtain ⟨y, hy⟩ := get_some (l := m) (i := k) (by rw [← HN.out.2]; exact hlt)
    have HX := Lib.hid hx
    have HY := Lib.hid hy
    obtain ⟨b1, o1, rfl, a0, a1, a2, a3, a4, a5⟩ := edit_at (HL.out.ext HB.out) hx
    obtain ⟨b2, o2, rfl, d0, d1, d2, d3, d4, d5⟩ := edit_at (HM.out.ext HB.out) hy
    have hi0 : (0 : Int) ≤ (k : Int) := by omega
    have hi1 : (k : Int) < (n : Int) := by omega
    obtain ⟨e, he⟩ : ∃ e, e = edB x y := ⟨_, rfl⟩
    have hne : ∀ w, (binOp .neq 82 (.agg #[.int .i64 x.fl, .int .i64 x.fu, .int .i64 x.tl, .int .i64 x.tu, .string ⟨x.text.toArray⟩, .bool x.whole]) (.agg #[.int .i64 y.fl, .int .i64 y.fu, .int .i64 y.tl, .int .i64 y.tu, .string ⟨y.text.toArray⟩, .bool y.whole])).run Tryz.prog w = .ok (.bool (!e)) w := fun w => by rw [he]; exact neq_edit x y w
    have HE := Lib.hid he
    clear hx hy he
    go_wp2_with fail
    cases e with
    | true =>
     go_quiet (fail)
     go_wp2
     go_roundw
     case rel => exact ⟨k + 1, by omega, by go_num, Lib.hid (eqEs_step HT.out HX.out HY.out HE.out.symm), Lib.hid (below_drew HB.out _)⟩
     case measure => simp [intOf]; omega
    | false =>
     go_quiet (fail)
     go_wp2
     go_ret
     exact ⟨by first | (rw [HQ.out, eqEs_no HX.out HY.out HE.out.symm]; done) | (rw [HQ.out, eqEs_no HX.out HY.out HE.out.symm]; rfl), below_drew HB.out _⟩
   ·
    have hkn : k = n := by omega
    have HF : Hid (q = true) := Lib.hid (by rw [HQ.out, eqEs_iff]; have := HT.out; rw [List.take_of_length_le (by rw [HN.out.1]; omega), List.take_of_length_le (by rw [← HN.out.2]; omega)] at this; exact this)
    clear hkn
    go_wp2
    go_ret
    exact ⟨by first | (rw [HF.out]; done) | (rw [HF.out]; rfl), HB.out⟩
 ·
  have hb : ((l.length : Int) == (m.length : Int)) = false := by simp; omega
  have HF : Hid (q = false) := Lib.hid (by
   rw [HQ.out]
   cases h : eqEs l m with
   | false => rfl
   | true => rw [eqEs_iff] at h; exact absurd (by rw [h]) hlen)
  clear hlen
  go_enter Tryz.func56, Tryz.ntmps56
  go_wp2
  go_ret
  exact ⟨by first | (rw [HF.out]; done) | (rw [HF.out]; rfl), Below.refl _ _⟩
end Go.Proofs.YthnbeebilomchaaGreatDoor

namespace Go.Proofs.YthnbeebilomchaaGreatDoor
open Go Go.RowKit

def SameP (a b : CD) : Prop := a.kind = b.kind ∧ a.id.v = b.id.v ∧ a.name = b.name ∧ a.version = b.version ∧ a.text = b.text ∧ a.changes = b.changes ∧ (a.pl = b.pl ∧ a.pu = b.pu) ∧ a.other.v = b.other.v
structure SaS (w : World) (a b : CD) (W : World) : Prop where
  below : Below w.heap.size w W
  ablk : Blk W w.heap.size (cdC a) 43
  bblk : Blk W (w.heap.size + 1) (cdC b) 43
  aat : CallAt W a
  bat : CallAt W b
theorem SaS.ext {w : World} {a b : CD} {W W' : World} (h : SaS w a b W) (hb : Below W.heap.size W W') : SaS w a b W' := ⟨h.below.trans (hb.mono h.below.size), h.ablk.ext hb, h.bblk.ext hb, h.aat.ext hb, h.bat.ext hb⟩
set_option maxHeartbeats 4000000 in
set_option maxRecDepth 20000 in
theorem same_call (a b : CD) (w : World) (ha : CallAt w a) (hb : CallAt w b) (hsa : sizeV a.id.v ≤ 1048576) (hsa2 : sizeV a.other.v ≤ 1048576) (hn : a.changes.length ≤ 1048576) (hn2 : b.changes.length ≤ 1048576) :
  Calls Tryz.prog 33 #[.agg (cdC a), .agg (cdC b)] w (Ret w (IsB (SameP a b))) := by
 obtain ⟨W0, hW0⟩ : ∃ W0, W0 = (w.alloc (.cells (cdC a) 43)).alloc (.cells (cdC b) 43) := ⟨_, rfl⟩
 have hb0 : Below w.heap.size w W0 := by rw [hW0]; exact (below_a1 w _).alloc (by simp) _
 have HS0 : Hid (SaS w a b W0) := Lib.hid ⟨hb0, by rw [hW0]; exact (Blk.new rfl).alloc _, by rw [hW0]; exact Blk.new (by simp), ha.ext hb0, hb.ext hb0⟩
 have HSA := Lib.hid hsa
 have HSO := Lib.hid hsa2
 have HNA := Lib.hid hn
 have HNB := Lib.hid hn2
 clear ha hb hsa hsa2 hn hn2 hb0
 go_enter Tryz.func33, Tryz.ntmps33
 go_upto_region 1 with (fail)
 rw [← hW0]
 clear hW0
 have a0 := HS0.out.ablk.cell 0
 have a1 := HS0.out.ablk.cell 1
 have a2 := HS0.out.ablk.cell 2
 have a3 := HS0.out.ablk.cell 3
 have a4 := HS0.out.ablk.cell 4
 have a5 := HS0.out.ablk.cell 5
 have a6 := HS0.out.ablk.cell 6
 have b0 := HS0.out.bblk.cell 0
 have b1 := HS0.out.bblk.cell 1
 have b2 := HS0.out.bblk.cell 2
 have b3 := HS0.out.bblk.cell 3
 have b4 := HS0.out.bblk.cell 4
 have b5 := HS0.out.bblk.cell 5
 have b6 := HS0.out.bblk.cell 6
 unfold cdC at a0 a1 a2 a3 a4 a5 a6 b0 b1 b2 b3 b4 b5 b6
 simp only [List.getElem?_toArray, List.getElem?_cons_zero, List.getElem?_cons_succ] at a0 a1 a2 a3 a4 a5 a6 b0 b1 b2 b3 b4 b5 b6
 by_cases hk : a.kind = b.kind
 case neg =>
  have fk : (a.kind == b.kind) = false := by simpa using hk
  have HF := Lib.hid hk
  clear hk
  go_wp2
  go_ret
  exact ⟨_, rfl, HS0.out.below, false, rfl, ⟨(fun h => by cases h), fun h => absurd h.1 (by first | exact HF.out | (simpa using HF.out))⟩⟩
 have fk : (a.kind == b.kind) = true := by simpa using hk
 have HK := Lib.hid hk
 have h1 := same_any a.id b.id W0 HS0.out.aat.id HS0.out.bat.id HSA.out
 rw [VD.val6, VD.val6] at h1
 have H1 := Lib.hid h1
 clear h1 hk
 go_wp2_with fail
 refine H1.out.mono ?_
 rintro e W1 hr
 obtain ⟨_, rfl, hb1, r1, rfl, hr1⟩ := hr
 have HR1 := Lib.hid hr1
 have HS1 := Lib.hid (HS0.out.ext hb1)
 clear a0 a1 a2 a3 a4 a5 a6 b0 b1 b2 b3 b4 b5 b6
 clear hb1 hr1 H1 HS0 fk
 cases r1 with
 | false =>
  have HF : Hid (a.id.v ≠ b.id.v) := Lib.hid (fun h => by have := HR1.out.2 h; cases this)
  go_wp2
  go_ret
  exact ⟨_, rfl, HS1.out.below, false, rfl, ⟨(fun h => by cases h), fun h => absurd h.2.1 (by first | exact HF.out | (simpa using HF.out))⟩⟩
 | true =>
  have HE1 : Hid (a.id.v = b.id.v) := Lib.hid (HR1.out.1 rfl)
  have a7 := HS1.out.ablk.cell 7
  have a8 := HS1.out.ablk.cell 8
  have a9 := HS1.out.ablk.cell 9
  have a10 := HS1.out.ablk.cell 10
  have b7 := HS1.out.bblk.cell 7
  have b8 := HS1.out.bblk.cell 8
  have b9 := HS1.out.bblk.cell 9
  have b10 := HS1.out.bblk.cell 10
  unfold cdC at a7 a8 a9 a10 b7 b8 b9 b10
  simp only [List.getElem?_toArray, List.getElem?_cons_zero, List.getElem?_cons_succ] at a7 a8 a9 a10 b7 b8 b9 b10
  by_cases hn : a.name = b.name
  case neg =>
   have fn : (a.name == b.name) = false := by simpa using hn
   have HF := Lib.hid hn
   clear hn
   go_wp2
   go_ret
   exact ⟨_, rfl, HS1.out.below, false, rfl, ⟨(fun h => by cases h), fun h => absurd h.2.2.1 (by first | exact HF.out | (simpa using HF.out))⟩⟩
  have fn : (a.name == b.name) = true := by simpa using hn
  have HN := Lib.hid hn
  clear hn
  by_cases hv : a.version = b.version
  case neg =>
   have fv : (a.version == b.version) = false := by simpa using hv
   have HF := Lib.hid hv
   clear hv
   go_wp2
   go_ret
   exact ⟨_, rfl, HS1.out.below, false, rfl, ⟨(fun h => by cases h), fun h => absurd h.2.2.2.1 (by first | exact HF.out | (simpa using HF.out))⟩⟩
  have fv : (a.version == b.version) = true := by simpa using hv
  have HV := Lib.hid hv
  clear hv
  by_cases ht : a.text = b.text
  case neg =>
   have ft : (a.text == b.text) = false := by simpa using ht
   have HF := Lib.hid ht
   clear ht
   go_wp2
   go_ret
   exact ⟨_, rfl, HS1.out.below, false, rfl, ⟨(fun h => by cases h), fun h => absurd h.2.2.2.2.1 (by first | exact HF.out | (simpa using HF.out))⟩⟩
  have ft : (a.text == b.text) = true := by simpa using ht
  have HT := Lib.hid ht
  clear ht
  have H2 := Lib.hid (equalE_any a.a b.a a.c b.c a.changes b.changes W1 HS1.out.aat.row HS1.out.bat.row HNA.out HNB.out)
  go_wp2_with fail
  refine H2.out.mono ?_
  rintro e W2 ⟨rfl, hb2⟩
  have HS2 := Lib.hid (HS1.out.ext hb2)
  clear a7 a8 a9 a10 b7 b8 b9 b10
  clear hb2 H2 HS1 fn fv ft
  obtain ⟨r2, hr2⟩ : ∃ r, r = eqEs a.changes b.changes := ⟨_, rfl⟩
  rw [← hr2]
  have HR2 := Lib.hid hr2
  clear hr2
  cases r2 with
  | false =>
   have HF : Hid (a.changes ≠ b.changes) := Lib.hid (fun h => by rw [← eqEs_iff, ← HR2.out] at h; cases h)
   go_wp2
   go_ret
   exact ⟨_, rfl, HS2.out.below, false, rfl, ⟨(fun h => by cases h), fun h => absurd h.2.2.2.2.2.1 (by first | exact HF.out | (simpa using HF.out))⟩⟩
  | true =>
   have HE2 : Hid (a.changes = b.changes) := Lib.hid ((eqEs_iff _ _).1 HR2.out.symm)
   have a11 := HS2.out.ablk.cell 11
   have a12 := HS2.out.ablk.cell 12
   have a13 := HS2.out.ablk.cell 13
   have a14 := HS2.out.ablk.cell 14
   have a15 := HS2.out.ablk.cell 15
   have a16 := HS2.out.ablk.cell 16
   have a17 := HS2.out.ablk.cell 17
   have a18 := HS2.out.ablk.cell 18
   have b11 := HS2.out.bblk.cell 11
   have b12 := HS2.out.bblk.cell 12
   have b13 := HS2.out.bblk.cell 13
   have b14 := HS2.out.bblk.cell 14
   have b15 := HS2.out.bblk.cell 15
   have b16 := HS2.out.bblk.cell 16
   have b17 := HS2.out.bblk.cell 17
   have b18 := HS2.out.bblk.cell 18
   unfold cdC at a11 a12 a13 a14 a15 a16 a17 a18 b11 b12 b13 b14 b15 b16 b17 b18
   simp only [List.getElem?_toArray, List.getElem?_cons_zero, List.getElem?_cons_succ] at a11 a12 a13 a14 a15 a16 a17 a18 b11 b12 b13 b14 b15 b16 b17 b18
   obtain ⟨r3, hr3⟩ : ∃ r, r = (a.pl == b.pl && a.pu == b.pu) := ⟨_, rfl⟩
   have hpl : ∀ w, (binOp .eql 29 (.agg #[.int .i64 a.pl, .int .i64 a.pu]) (.agg #[.int .i64 b.pl, .int .i64 b.pu])).run Tryz.prog w = .ok (.bool r3) w := fun w => by rw [hr3]; exact eql_place _ _ _ _ w
   have HR3 := Lib.hid hr3
   clear hr3
   cases r3 with
   | false =>
    have HF : Hid (¬ (a.pl = b.pl ∧ a.pu = b.pu)) := Lib.hid (fun h => by have := HR3.out; rw [h.1, h.2] at this; simp at this)
    go_wp2
    go_ret
    exact ⟨_, rfl, HS2.out.below, false, rfl, ⟨(fun h => by cases h), fun h => absurd h.2.2.2.2.2.2.1 (by first | exact HF.out | (simpa using HF.out))⟩⟩
   | true =>
    have HE3 : Hid (a.pl = b.pl ∧ a.pu = b.pu) := Lib.hid (by have := HR3.out.symm; simpa using this)
    have h1 := same_any a.other b.other W2 HS2.out.aat.other HS2.out.bat.other HSO.out
    rw [VD.val6, VD.val6] at h1
    have H3 := Lib.hid h1
    clear h1
    go_wp2_with fail
    refine H3.out.mono ?_
    rintro e W3 hr
    obtain ⟨_, rfl, hb3, r4, rfl, hr4⟩ := hr
    have HR4 := Lib.hid hr4
    have HS3 := Lib.hid (HS2.out.ext hb3)
    clear a11 a12 a13 a14 a15 a16 a17 a18 b11 b12 b13 b14 b15 b16 b17 b18
    clear hb3 hr4 H3 HS2 hpl
    cases r4 with
    | false =>
     have HF : Hid (a.other.v ≠ b.other.v) := Lib.hid (fun h => by have := HR4.out.2 h; cases this)
     go_wp2
     go_ret
     exact ⟨_, rfl, HS3.out.below, false, rfl, ⟨(fun h => by cases h), fun h => absurd h.2.2.2.2.2.2.2 (by first | exact HF.out | (simpa using HF.out))⟩⟩
    | true =>
     go_wp2
     go_ret
     exact ⟨_, rfl, HS3.out.below, true, rfl, ⟨fun _ => ⟨HK.out, HE1.out, HN.out, HV.out, HT.out, HE2.out, HE3.out, HR4.out.1 (by first | trivial | rfl)⟩, fun _ => rfl⟩⟩
end Go.Proofs.YthnbeebilomchaaGreatDoor

namespace Go.Proofs.YthnbeebilomchaaGreatDoor
open Go Go.RowKit

theorem Tryz.infoPart : (Tryz.prog.info? 74).map (fun i => (i.zero, i.size, i.bytes)) = some (some (.agg #[.string ByteArray.empty, .int .i64 0, .bool false, .int .i64 0, .string ByteArray.empty, .slice none 0 0, .slice none 0 0]), 7, 104) := by kernel_rfl
theorem own_blk {W : World} {base g n sz : Nat} {T : TypeId} {cs : Array Value} (h : Blk W g cs T) (hb : base ≤ g) (hs : cs.size = n * sz) (hn : n ≤ maxLen) : Own W base T sz (some ⟨g, 0, none⟩) n n cs.toList :=
  ⟨by rw [Array.length_toList]; exact hs, .inr ⟨g, 0, cs, rfl, hb, h, Nat.le_refl _, hn, by omega, by rw [List.drop_zero, List.take_of_length_le (by rw [Array.length_toList]; omega)]⟩⟩
theorem ptC_one {l : List Pt} : ∀ u ∈ l.flatMap ptC, u.oneCell' = true := by
  intro u hu
  obtain ⟨p, -, hp⟩ := List.mem_flatMap.1 hu
  obtain ⟨k, s, o, n, t, va, vc, l2, ka, kc, ks⟩ := p
  simp [ptC, VD.cells, strV] at hp
  rcases hp with rfl | rfl | rfl | rfl | rfl | rfl | rfl <;> rfl
structure PaS (w : World) (c : CD) (W : World) : Prop where
  below : Below w.heap.size w W
  cblk : Blk W w.heap.size (cdC c) 43
  rblk : Blk W (w.heap.size + 1) #[.int .i64 0, .bool false, .int .i64 0, .string { data := #[] }, .slice none 0 0, .slice none 0 0] 36
theorem PaS.ext {w : World} {c : CD} {W W' : World} (h : PaS w c W) (hb : Below W.heap.size W W') : PaS w c W' := ⟨h.below.trans (hb.mono h.below.size), h.cblk.ext hb, h.rblk.ext hb⟩
theorem PaS.grow {w : World} {c : CD} {W W' : World} (h : PaS w c W) {row : Option Nat} (hg : W.grownBy W' row) (hr : ∀ k, row = some k → w.heap.size + 2 ≤ k) : PaS w c W' := by
  have hlo : ∀ k, k < w.heap.size + 2 → some k ≠ row := fun k hk e => by have := hr k e.symm; omega
  exact ⟨⟨hg.os.trans h.below.os, hg.tape.trans h.below.tape, hg.output.trans h.below.output, Nat.le_trans h.below.size hg.size, fun k hk => (hg.block k (by have := h.below.size; omega) (hlo k (by omega))).trans (h.below.block k hk)⟩, h.cblk.grown hg (hlo _ (by omega)), h.rblk.grown hg (hlo _ (by omega))⟩
theorem PaS.sz {w : World} {c : CD} {W : World} (h : PaS w c W) : w.heap.size + 2 ≤ W.heap.size := h.rblk.lt
theorem paramsW_9 (c : C) (h : c.kind = 9) : paramsW c = recW [(kId, c.other)] := by unfold paramsW; rw [if_pos h]
theorem params_end {W : World} {tm : Array Value} {R : Ending → World → Prop} {g : Nat} {u0 u1 u2 u3 u4 u5 : Value} (h2 : tm.getD 2 undef = .pointer (some ⟨g, 0, none⟩)) (hB : Blk W g #[u0, u1, u2, u3, u4, u5] 36)
    (hR : R (.returned (.agg #[u0, u1, u2, u3, u4, u5])) W) : bodyPost Tryz.prog Tryz.f31 R .ret { tmps := tm, defers := [] } W := by
  have d0 := hB.cell 0
  have d1 := hB.cell 1
  have d2 := hB.cell 2
  have d3 := hB.cell 3
  have d4 := hB.cell 4
  have d5 := hB.cell 5
  simp only [List.getElem?_toArray, List.getElem?_cons_zero, List.getElem?_cons_succ] at d0 d1 d2 d3 d4 d5
  rw [Array.getD_eq_getD_getElem?] at h2
  refine bodyPost_ret (v := .agg #[u0, u1, u2, u3, u4, u5]) ?_ rfl hR
  simp [results, Tryz.results31, go_sem, h2, d0, d1, d2, d3, d4, d5]
set_option maxHeartbeats 4000000 in
set_option maxRecDepth 20000 in
theorem params_9 (P : Nat → Prop) (c : CD) (w : World) (hP : ∀ g, w.heap.size ≤ g → P g) (hk : c.kind = 9) (hc : ValAt w P c.other) : Calls Tryz.prog 31 #[.agg (cdC c)] w (DocP w P (paramsW c.k)) := by
 obtain ⟨W0, hW0⟩ : ∃ W0, W0 = (w.alloc (.cells (cdC c) 43)).alloc (.cells #[.int .i64 0, .bool false, .int .i64 0, .string { data := #[] }, .slice none 0 0, .slice none 0 0] 36) := ⟨_, rfl⟩
 have hb0 : Below w.heap.size w W0 := by rw [hW0]; exact (below_a1 w _).alloc (by simp) _
 have HS : Hid (PaS w c W0) := Lib.hid ⟨hb0, by rw [hW0]; exact (Blk.new rfl).alloc _, by rw [hW0]; exact Blk.new (by simp)⟩
 have HOV : Hid (ValAt w (fun g => P g ∧ g ≠ w.heap.size + 1) c.other) := Lib.hid (hc.mono fun g h1 h2 => ⟨h1, by omega⟩)
 have HP := Lib.hid hP
 have HPP : Hid (∀ W : World, w.heap.size + 2 ≤ W.heap.size → ∀ g, W.heap.size ≤ g → (P g ∧ g ≠ w.heap.size + 1)) := Lib.hid fun W h g hg => ⟨hP g (by omega), by omega⟩
 have c0 : W0.cell? ⟨w.heap.size, 0, none⟩ = some (.int .i64 9) := by rw [← hk]; exact HS.out.cblk.cell 0
 have HK := Lib.hid hk
 clear hP hc hb0 hk
 go_enter Tryz.func31, Tryz.ntmps31
 go_upto_region 1 with (fail)
 rw [← hW0]
 clear hW0
 have c7 := HS.out.cblk.cell 7
 unfold cdC at c7
 simp only [List.getElem?_toArray, List.getElem?_cons_zero, List.getElem?_cons_succ] at c7
 obtain ⟨nm, hnm⟩ : ∃ q, q = c.name := ⟨_, rfl⟩
 rw [← hnm] at c7
 have HNM := Lib.hid hnm
 clear hnm
 go_wp2_with fail
 refine (str_any nm W0).mono ?_
 rintro e w1 ⟨rfl, hb⟩
 have HSn := Lib.hid (HS.out.ext hb)
 clear hb HS
 have HS := HSn
 clear HSn
 clear c0 c7
 obtain ⟨gd, hgd⟩ : ∃ gd, gd = w1.heap.size := ⟨_, rfl⟩
 obtain ⟨w2, hw2⟩ : ∃ w2, w2 = w1.alloc (.cells ([(kUri, strD nm)].flatMap ptC).toArray 74) := ⟨_, rfl⟩
 have hb : Below w1.heap.size w1 w2 := by rw [hw2]; exact below_a1 _ _
 have HPgd : Hid (PtsAt w2 (fun g => P g ∧ g ≠ w.heap.size + 1) (some ⟨gd, 0, none⟩) [(kUri, strD nm)]) := Lib.hid ⟨by rw [hw2, hgd]; exact row_blk (Blk.new rfl) (flat_length ptC 7 ptC_len _), fun p hp => by
  simp only [List.mem_cons, List.mem_nil_iff, or_false] at hp
  rcases hp with rfl
  exact .leaf⟩
 have HOgd : Hid (Own w2 (w.heap.size + 2) 74 7 (some ⟨gd, 0, none⟩) [(kUri, strD nm)].length [(kUri, strD nm)].length ([(kUri, strD nm)].flatMap ptC)) := Lib.hid (by have := HS.out.sz; rw [hw2, hgd]; exact own_blk (cs := ([(kUri, strD nm)].flatMap ptC).toArray) (Blk.new rfl) (by omega) (by rw [List.size_toArray]; exact flat_length ptC 7 ptC_len _) (by simp [maxLen]))
 have HSn := Lib.hid (HS.out.ext hb)
 clear hb HS
 have HS := HSn
 clear HSn
 simp only [List.flatMap_cons, List.flatMap_nil] at hw2
 try simp only [ptC_str] at hw2
 try simp only [ptC_num] at hw2
 try simp only [ptC_of] at hw2
 try simp only [List.cons_append, List.nil_append] at hw2
 simp only [List.append_nil, kUri] at hw2
 go_upto_region 2 with (fail)
 rw [← hw2, ← hgd]
 clear hw2 hgd
 have c0 : w2.cell? ⟨w.heap.size, 0, none⟩ = some (.int .i64 9) := by rw [← HK.out]; exact HS.out.cblk.cell 0
 go_upto_region 5 with (fail)
 have c13 := HS.out.cblk.cell 13
 have c14 := HS.out.cblk.cell 14
 have c15 := HS.out.cblk.cell 15
 have c16 := HS.out.cblk.cell 16
 have c17 := HS.out.cblk.cell 17
 have c18 := HS.out.cblk.cell 18
 unfold cdC at c13 c14 c15 c16 c17 c18
 simp only [List.getElem?_toArray, List.getElem?_cons_zero, List.getElem?_cons_succ] at c13 c14 c15 c16 c17 c18
 obtain ⟨gi, hgi⟩ : ∃ gi, gi = w2.heap.size := ⟨_, rfl⟩
 obtain ⟨w3, hw3⟩ : ∃ w3, w3 = w2.alloc (.cells ([(kId, c.other)].flatMap ptC).toArray 74) := ⟨_, rfl⟩
 have hb : Below w2.heap.size w2 w3 := by rw [hw3]; exact below_a1 _ _
 have HPgi : Hid (PtsAt w3 (fun g => P g ∧ g ≠ w.heap.size + 1) (some ⟨gi, 0, none⟩) [(kId, c.other)]) := Lib.hid ⟨by rw [hw3, hgi]; exact row_blk (Blk.new rfl) (flat_length ptC 7 ptC_len _), fun p hp => by
  simp only [List.mem_cons, List.mem_nil_iff, or_false] at hp
  rcases hp with rfl
  exact HOV.out.ext (HS.out.below.trans (hb.mono HS.out.below.size))⟩
 have HOgi : Hid (Own w3 (w.heap.size + 2) 74 7 (some ⟨gi, 0, none⟩) [(kId, c.other)].length [(kId, c.other)].length ([(kId, c.other)].flatMap ptC)) := Lib.hid (by have := HS.out.sz; rw [hw3, hgi]; exact own_blk (cs := ([(kId, c.other)].flatMap ptC).toArray) (Blk.new rfl) (by omega) (by rw [List.size_toArray]; exact flat_length ptC 7 ptC_len _) (by simp [maxLen]))
 have HSn := Lib.hid (HS.out.ext hb)
 clear hb HS
 have HS := HSn
 clear HSn
 simp only [List.flatMap_cons, List.flatMap_nil] at hw3
 try simp only [ptC_str] at hw3
 try simp only [ptC_num] at hw3
 try simp only [ptC_of] at hw3
 try simp only [List.cons_append, List.nil_append] at hw3
 simp only [List.append_nil, kId] at hw3
 go_wp2_with fail
 rw [← hw3, ← hgi]
 clear hw3 hgi c13 c14 c15 c16 c17 c18
 have hR := record_any (fun g => P g ∧ g ≠ w.heap.size + 1) (some ⟨gi, 0, none⟩) 1 [(kId, c.other)] w3 (HPP.out _ HS.out.sz) HPgi.out (by simp)
 simp only [List.length_cons, List.length_nil, Nat.zero_add, Nat.reduceAdd] at hR
 refine hR.mono ?_
 clear hR
 rintro e w4 ⟨d, rfl, hvd, hdd, hb⟩
 have HVd := Lib.hid hvd
 have HDd := Lib.hid hdd
 clear hvd hdd
 have HSn := Lib.hid (HS.out.ext hb)
 clear hb HS
 have HS := HSn
 clear HSn
 have f0 := HS.out.rblk.free 0
 have f1 := HS.out.rblk.free 1
 have f2 := HS.out.rblk.free 2
 have f3 := HS.out.rblk.free 3
 have f4 := HS.out.rblk.free 4
 have f5 := HS.out.rblk.free 5
 obtain ⟨z0, z1, z2, z3, z4, z5⟩ := HS.out.rblk.sixT
 go_wp2
 refine params_end (g := w.heap.size + 1) rfl (store6 HS.out.rblk) ?_
 refine docS (P := P) (o := 0) ?_ HDd.out (fun g h => ⟨h.2, h.1⟩) HS.out.below (by omega)
 rw [HVd.out, paramsW_9 _ (by show c.kind.toNat = 9; rw [HK.out]; rfl)]
 rfl
theorem paramsW_doc (c : C) (h : c.kind = 6 ∨ c.kind = 8) : paramsW c = recW [(kDoc, recW [(kUri, strW c.name)])] := by
  unfold paramsW; rcases h with h | h <;> simp [h]
theorem paramsW_7 (c : C) (h : c.kind = 7) : paramsW c = recW [(kDoc, recW [(kUri, strW c.name)]), (kPosition, atW c.pl c.pu)] := by unfold paramsW; simp [h]
theorem paramsW_4 (c : C) (h : c.kind = 4) : paramsW c = recW [(kDoc, recW [(kUri, strW c.name), (kVersion, numW c.version), (kText, strW c.text)])] := by unfold paramsW; simp [h]
theorem paramsW_5 (c : C) (h : c.kind = 5) : paramsW c = recW [(kDoc, recW [(kUri, strW c.name), (kVersion, numW c.version)]), (kChanges, listW (c.changes.map editW))] := by unfold paramsW; simp [h]
set_option maxHeartbeats 4000000 in
set_option maxRecDepth 20000 in
theorem params_6 (P : Nat → Prop) (c : CD) (w : World) (hP : ∀ g, w.heap.size ≤ g → P g) (hk : c.kind = 6) (hc : ValAt w P c.other) : Calls Tryz.prog 31 #[.agg (cdC c)] w (DocP w P (paramsW c.k)) := by
 obtain ⟨W0, hW0⟩ : ∃ W0, W0 = (w.alloc (.cells (cdC c) 43)).alloc (.cells #[.int .i64 0, .bool false, .int .i64 0, .string { data := #[] }, .slice none 0 0, .slice none 0 0] 36) := ⟨_, rfl⟩
 have hb0 : Below w.heap.size w W0 := by rw [hW0]; exact (below_a1 w _).alloc (by simp) _
 have HS : Hid (PaS w c W0) := Lib.hid ⟨hb0, by rw [hW0]; exact (Blk.new rfl).alloc _, by rw [hW0]; exact Blk.new (by simp)⟩
 have HOV : Hid (ValAt w (fun g => P g ∧ g ≠ w.heap.size + 1) c.other) := Lib.hid (hc.mono fun g h1 h2 => ⟨h1, by omega⟩)
 have HP := Lib.hid hP
 have HPP : Hid (∀ W : World, w.heap.size + 2 ≤ W.heap.size → ∀ g, W.heap.size ≤ g → (P g ∧ g ≠ w.heap.size + 1)) := Lib.hid fun W h g hg => ⟨hP g (by omega), by omega⟩
 have c0 : W0.cell? ⟨w.heap.size, 0, none⟩ = some (.int .i64 6) := by rw [← hk]; exact HS.out.cblk.cell 0
 have HK := Lib.hid hk
 clear hP hc hb0 hk
 go_enter Tryz.func31, Tryz.ntmps31
 go_upto_region 1 with (fail)
 rw [← hW0]
 clear hW0
 have c7 := HS.out.cblk.cell 7
 unfold cdC at c7
 simp only [List.getElem?_toArray, List.getElem?_cons_zero, List.getElem?_cons_succ] at c7
 obtain ⟨nm, hnm⟩ : ∃ q, q = c.name := ⟨_, rfl⟩
 rw [← hnm] at c7
 have HNM := Lib.hid hnm
 clear hnm
 go_wp2_with fail
 refine (str_any nm W0).mono ?_
 rintro e w1 ⟨rfl, hb⟩
 have HSn := Lib.hid (HS.out.ext hb)
 clear hb HS
 have HS := HSn
 clear HSn
 clear c0 c7
 obtain ⟨gd, hgd⟩ : ∃ gd, gd = w1.heap.size := ⟨_, rfl⟩
 obtain ⟨w2, hw2⟩ : ∃ w2, w2 = w1.alloc (.cells ([(kUri, strD nm)].flatMap ptC).toArray 74) := ⟨_, rfl⟩
 have hb : Below w1.heap.size w1 w2 := by rw [hw2]; exact below_a1 _ _
 have HPgd : Hid (PtsAt w2 (fun g => P g ∧ g ≠ w.heap.size + 1) (some ⟨gd, 0, none⟩) [(kUri, strD nm)]) := Lib.hid ⟨by rw [hw2, hgd]; exact row_blk (Blk.new rfl) (flat_length ptC 7 ptC_len _), fun p hp => by
  simp only [List.mem_cons, List.mem_nil_iff, or_false] at hp
  rcases hp with rfl
  exact .leaf⟩
 have HOgd : Hid (Own w2 (w.heap.size + 2) 74 7 (some ⟨gd, 0, none⟩) [(kUri, strD nm)].length [(kUri, strD nm)].length ([(kUri, strD nm)].flatMap ptC)) := Lib.hid (by have := HS.out.sz; rw [hw2, hgd]; exact own_blk (cs := ([(kUri, strD nm)].flatMap ptC).toArray) (Blk.new rfl) (by omega) (by rw [List.size_toArray]; exact flat_length ptC 7 ptC_len _) (by simp [maxLen]))
 have HSn := Lib.hid (HS.out.ext hb)
 clear hb HS
 have HS := HSn
 clear HSn
 simp only [List.flatMap_cons, List.flatMap_nil] at hw2
 try simp only [ptC_str] at hw2
 try simp only [ptC_num] at hw2
 try simp only [ptC_of] at hw2
 try simp only [List.cons_append, List.nil_append] at hw2
 simp only [List.append_nil, kUri] at hw2
 go_upto_region 2 with (fail)
 rw [← hw2, ← hgd]
 clear hw2 hgd
 have c0 : w2.cell? ⟨w.heap.size, 0, none⟩ = some (.int .i64 6) := by rw [← HK.out]; exact HS.out.cblk.cell 0
 go_upto_region 22 with (fail)
 go_wp2_with fail
 have hR := record_any (fun g => P g ∧ g ≠ w.heap.size + 1) (some ⟨gd, 0, none⟩) 1 [(kUri, strD nm)] w2 (HPP.out _ HS.out.sz) HPgd.out (by simp)
 simp only [List.length_cons, List.length_nil, Nat.zero_add, Nat.reduceAdd] at hR
 refine hR.mono ?_
 clear hR
 rintro e wr ⟨d1, rfl, hvd1, hdd1, hb⟩
 have HVd1 := Lib.hid hvd1
 have HDd1 := Lib.hid hdd1
 clear hvd1 hdd1
 have HSn := Lib.hid (HS.out.ext hb)
 clear hb HS
 have HS := HSn
 clear HSn
 go_wp2_with (at_builtin; refine wpList_append_Own rfl _ _ 75 rfl (w.heap.size + 2) 74 _ 7 104 Tryz.underlying75 Tryz.infoPart rfl (by decide) _ 1 1 [.string ⟨kDoc.toArray⟩, .int .i64 d1.sort, .bool d1.on, .int .i64 d1.n, .string ⟨d1.text.toArray⟩, .slice d1.a d1.list.length d1.c, .slice d1.ka d1.keys.length d1.kc] rfl (by exact own_blk (cs := #[.string ⟨kDoc.toArray⟩, .int .i64 d1.sort, .bool d1.on, .int .i64 d1.n, .string ⟨d1.text.toArray⟩, .slice d1.a d1.list.length d1.c, .slice d1.ka d1.keys.length d1.kc]) (Blk.new rfl) HS.out.sz rfl (by simp [maxLen])) none 0 0 (([] : List Pt).flatMap ptC) rfl (Row.nil _ _ _) ptC_one (by simp [maxLen]) (by simp) (by have := HS.out.sz; simp; omega) ?_; intro a5 c5 w5 ho5 hg5 hb5)
 have hb : Below wr.heap.size wr w5 := (below_a1 wr _).grown hg5 (by simp) (fun k hk => by simp [rowOf, blockOf] at hk; omega)
 have HR5 : Hid (Row w5 7 a5 ((kDoc, d1) :: ([] : List Pt)).length (((kDoc, d1) :: ([] : List Pt)).flatMap ptC)) := Lib.hid (by rw [List.flatMap_cons, ptC_of]; exact ho5.row)
 clear ho5 hg5 hb5
 have HSn := Lib.hid (HS.out.ext hb)
 have HDd1n := Lib.hid (HDd1.out.ext hb)
 clear HDd1
 have HDd1 := HDd1n
 clear HDd1n
 clear hb HS
 have HS := HSn
 clear HSn
 have HP5 : Hid (PtsAt w5 (fun g => P g ∧ g ≠ w.heap.size + 1) a5 ((kDoc, d1) :: ([] : List Pt))) := Lib.hid ⟨HR5.out, fun p hp => by
  rcases List.mem_cons.1 hp with rfl | hp
  ·
   exact HDd1.out
  ·
   cases hp⟩
 try simp only [Nat.reduceAdd]
 have hR := record_any (fun g => P g ∧ g ≠ w.heap.size + 1) a5 c5 ((kDoc, d1) :: ([] : List Pt)) w5 (HPP.out _ HS.out.sz) HP5.out (by simp)
 simp only [List.length_cons, List.length_nil, Nat.zero_add, Nat.reduceAdd] at hR
 refine hR.mono ?_
 clear hR
 rintro e wy ⟨d2, rfl, hvd2, hdd2, hb⟩
 have HVd2 := Lib.hid hvd2
 have HDd2 := Lib.hid hdd2
 clear hvd2 hdd2
 have HSn := Lib.hid (HS.out.ext hb)
 clear hb HS
 have HS := HSn
 clear HSn
 have f0 := HS.out.rblk.free 0
 have f1 := HS.out.rblk.free 1
 have f2 := HS.out.rblk.free 2
 have f3 := HS.out.rblk.free 3
 have f4 := HS.out.rblk.free 4
 have f5 := HS.out.rblk.free 5
 obtain ⟨z0, z1, z2, z3, z4, z5⟩ := HS.out.rblk.sixT
 go_wp2
 refine params_end (g := w.heap.size + 1) rfl (store6 HS.out.rblk) ?_
 refine docS (P := P) (o := 0) ?_ HDd2.out (fun g h => ⟨h.2, h.1⟩) HS.out.below (by omega)
 rw [HVd2.out, paramsW_doc _ (by show c.kind.toNat = 6 ∨ c.kind.toNat = 8; rw [HK.out]; decide)]
 show recW [(kDoc, d1.v)] = _
 rw [HVd1.out, HNM.out]
 rfl
set_option maxHeartbeats 4000000 in
set_option maxRecDepth 20000 in
theorem params_8 (P : Nat → Prop) (c : CD) (w : World) (hP : ∀ g, w.heap.size ≤ g → P g) (hk : c.kind = 8) (hc : ValAt w P c.other) : Calls Tryz.prog 31 #[.agg (cdC c)] w (DocP w P (paramsW c.k)) := by
 obtain ⟨W0, hW0⟩ : ∃ W0, W0 = (w.alloc (.cells (cdC c) 43)).alloc (.cells #[.int .i64 0, .bool false, .int .i64 0, .string { data := #[] }, .slice none 0 0, .slice none 0 0] 36) := ⟨_, rfl⟩
 have hb0 : Below w.heap.size w W0 := by rw [hW0]; exact (below_a1 w _).alloc (by simp) _
 have HS : Hid (PaS w c W0) := Lib.hid ⟨hb0, by rw [hW0]; exact (Blk.new rfl).alloc _, by rw [hW0]; exact Blk.new (by simp)⟩
 have HOV : Hid (ValAt w (fun g => P g ∧ g ≠ w.heap.size + 1) c.other) := Lib.hid (hc.mono fun g h1 h2 => ⟨h1, by omega⟩)
 have HP := Lib.hid hP
 have HPP : Hid (∀ W : World, w.heap.size + 2 ≤ W.heap.size → ∀ g, W.heap.size ≤ g → (P g ∧ g ≠ w.heap.size + 1)) := Lib.hid fun W h g hg => ⟨hP g (by omega), by omega⟩
 have c0 : W0.cell? ⟨w.heap.size, 0, none⟩ = some (.int .i64 8) := by rw [← hk]; exact HS.out.cblk.cell 0
 have HK := Lib.hid hk
 clear hP hc hb0 hk
 go_enter Tryz.func31, Tryz.ntmps31
 go_upto_region 1 with (fail)
 rw [← hW0]
 clear hW0
 have c7 := HS.out.cblk.cell 7
 unfold cdC at c7
 simp only [List.getElem?_toArray, List.getElem?_cons_zero, List.getElem?_cons_succ] at c7
 obtain ⟨nm, hnm⟩ : ∃ q, q = c.name := ⟨_, rfl⟩
 rw [← hnm] at c7
 have HNM := Lib.hid hnm
 clear hnm
 go_wp2_with fail
 refine (str_any nm W0).mono ?_
 rintro e w1 ⟨rfl, hb⟩
 have HSn := Lib.hid (HS.out.ext hb)
 clear hb HS
 have HS := HSn
 clear HSn
 clear c0 c7
 obtain ⟨gd, hgd⟩ : ∃ gd, gd = w1.heap.size := ⟨_, rfl⟩
 obtain ⟨w2, hw2⟩ : ∃ w2, w2 = w1.alloc (.cells ([(kUri, strD nm)].flatMap ptC).toArray 74) := ⟨_, rfl⟩
 have hb : Below w1.heap.size w1 w2 := by rw [hw2]; exact below_a1 _ _
 have HPgd : Hid (PtsAt w2 (fun g => P g ∧ g ≠ w.heap.size + 1) (some ⟨gd, 0, none⟩) [(kUri, strD nm)]) := Lib.hid ⟨by rw [hw2, hgd]; exact row_blk (Blk.new rfl) (flat_length ptC 7 ptC_len _), fun p hp => by
  simp only [List.mem_cons, List.mem_nil_iff, or_false] at hp
  rcases hp with rfl
  exact .leaf⟩
 have HOgd : Hid (Own w2 (w.heap.size + 2) 74 7 (some ⟨gd, 0, none⟩) [(kUri, strD nm)].length [(kUri, strD nm)].length ([(kUri, strD nm)].flatMap ptC)) := Lib.hid (by have := HS.out.sz; rw [hw2, hgd]; exact own_blk (cs := ([(kUri, strD nm)].flatMap ptC).toArray) (Blk.new rfl) (by omega) (by rw [List.size_toArray]; exact flat_length ptC 7 ptC_len _) (by simp [maxLen]))
 have HSn := Lib.hid (HS.out.ext hb)
 clear hb HS
 have HS := HSn
 clear HSn
 simp only [List.flatMap_cons, List.flatMap_nil] at hw2
 try simp only [ptC_str] at hw2
 try simp only [ptC_num] at hw2
 try simp only [ptC_of] at hw2
 try simp only [List.cons_append, List.nil_append] at hw2
 simp only [List.append_nil, kUri] at hw2
 go_upto_region 2 with (fail)
 rw [← hw2, ← hgd]
 clear hw2 hgd
 have c0 : w2.cell? ⟨w.heap.size, 0, none⟩ = some (.int .i64 8) := by rw [← HK.out]; exact HS.out.cblk.cell 0
 go_upto_region 22 with (fail)
 go_wp2_with fail
 have hR := record_any (fun g => P g ∧ g ≠ w.heap.size + 1) (some ⟨gd, 0, none⟩) 1 [(kUri, strD nm)] w2 (HPP.out _ HS.out.sz) HPgd.out (by simp)
 simp only [List.length_cons, List.length_nil, Nat.zero_add, Nat.reduceAdd] at hR
 refine hR.mono ?_
 clear hR
 rintro e wr ⟨d1, rfl, hvd1, hdd1, hb⟩
 have HVd1 := Lib.hid hvd1
 have HDd1 := Lib.hid hdd1
 clear hvd1 hdd1
 have HSn := Lib.hid (HS.out.ext hb)
 clear hb HS
 have HS := HSn
 clear HSn
 go_wp2_with (at_builtin; refine wpList_append_Own rfl _ _ 75 rfl (w.heap.size + 2) 74 _ 7 104 Tryz.underlying75 Tryz.infoPart rfl (by decide) _ 1 1 [.string ⟨kDoc.toArray⟩, .int .i64 d1.sort, .bool d1.on, .int .i64 d1.n, .string ⟨d1.text.toArray⟩, .slice d1.a d1.list.length d1.c, .slice d1.ka d1.keys.length d1.kc] rfl (by exact own_blk (cs := #[.string ⟨kDoc.toArray⟩, .int .i64 d1.sort, .bool d1.on, .int .i64 d1.n, .string ⟨d1.text.toArray⟩, .slice d1.a d1.list.length d1.c, .slice d1.ka d1.keys.length d1.kc]) (Blk.new rfl) HS.out.sz rfl (by simp [maxLen])) none 0 0 (([] : List Pt).flatMap ptC) rfl (Row.nil _ _ _) ptC_one (by simp [maxLen]) (by simp) (by have := HS.out.sz; simp; omega) ?_; intro a5 c5 w5 ho5 hg5 hb5)
 have hb : Below wr.heap.size wr w5 := (below_a1 wr _).grown hg5 (by simp) (fun k hk => by simp [rowOf, blockOf] at hk; omega)
 have HR5 : Hid (Row w5 7 a5 ((kDoc, d1) :: ([] : List Pt)).length (((kDoc, d1) :: ([] : List Pt)).flatMap ptC)) := Lib.hid (by rw [List.flatMap_cons, ptC_of]; exact ho5.row)
 clear ho5 hg5 hb5
 have HSn := Lib.hid (HS.out.ext hb)
 have HDd1n := Lib.hid (HDd1.out.ext hb)
 clear HDd1
 have HDd1 := HDd1n
 clear HDd1n
 clear hb HS
 have HS := HSn
 clear HSn
 have HP5 : Hid (PtsAt w5 (fun g => P g ∧ g ≠ w.heap.size + 1) a5 ((kDoc, d1) :: ([] : List Pt))) := Lib.hid ⟨HR5.out, fun p hp => by
  rcases List.mem_cons.1 hp with rfl | hp
  ·
   exact HDd1.out
  ·
   cases hp⟩
 try simp only [Nat.reduceAdd]
 have hR := record_any (fun g => P g ∧ g ≠ w.heap.size + 1) a5 c5 ((kDoc, d1) :: ([] : List Pt)) w5 (HPP.out _ HS.out.sz) HP5.out (by simp)
 simp only [List.length_cons, List.length_nil, Nat.zero_add, Nat.reduceAdd] at hR
 refine hR.mono ?_
 clear hR
 rintro e wy ⟨d2, rfl, hvd2, hdd2, hb⟩
 have HVd2 := Lib.hid hvd2
 have HDd2 := Lib.hid hdd2
 clear hvd2 hdd2
 have HSn := Lib.hid (HS.out.ext hb)
 clear hb HS
 have HS := HSn
 clear HSn
 have f0 := HS.out.rblk.free 0
 have f1 := HS.out.rblk.free 1
 have f2 := HS.out.rblk.free 2
 have f3 := HS.out.rblk.free 3
 have f4 := HS.out.rblk.free 4
 have f5 := HS.out.rblk.free 5
 obtain ⟨z0, z1, z2, z3, z4, z5⟩ := HS.out.rblk.sixT
 go_wp2
 refine params_end (g := w.heap.size + 1) rfl (store6 HS.out.rblk) ?_
 refine docS (P := P) (o := 0) ?_ HDd2.out (fun g h => ⟨h.2, h.1⟩) HS.out.below (by omega)
 rw [HVd2.out, paramsW_doc _ (by show c.kind.toNat = 6 ∨ c.kind.toNat = 8; rw [HK.out]; decide)]
 show recW [(kDoc, d1.v)] = _
 rw [HVd1.out, HNM.out]
 rfl
set_option maxHeartbeats 4000000 in
set_option maxRecDepth 20000 in
theorem params_7 (P : Nat → Prop) (c : CD) (w : World) (hP : ∀ g, w.heap.size ≤ g → P g) (hk : c.kind = 7) (hc : ValAt w P c.other) : Calls Tryz.prog 31 #[.agg (cdC c)] w (DocP w P (paramsW c.k)) := by
 obtain ⟨W0, hW0⟩ : ∃ W0, W0 = (w.alloc (.cells (cdC c) 43)).alloc (.cells #[.int .i64 0, .bool false, .int .i64 0, .string { data := #[] }, .slice none 0 0, .slice none 0 0] 36) := ⟨_, rfl⟩
 have hb0 : Below w.heap.size w W0 := by rw [hW0]; exact (below_a1 w _).alloc (by simp) _
 have HS : Hid (PaS w c W0) := Lib.hid ⟨hb0, by rw [hW0]; exact (Blk.new rfl).alloc _, by rw [hW0]; exact Blk.new (by simp)⟩
 have HOV : Hid (ValAt w (fun g => P g ∧ g ≠ w.heap.size + 1) c.other) := Lib.hid (hc.mono fun g h1 h2 => ⟨h1, by omega⟩)
 have HP := Lib.hid hP
 have HPP : Hid (∀ W : World, w.heap.size + 2 ≤ W.heap.size → ∀ g, W.heap.size ≤ g → (P g ∧ g ≠ w.heap.size + 1)) := Lib.hid fun W h g hg => ⟨hP g (by omega), by omega⟩
 have c0 : W0.cell? ⟨w.heap.size, 0, none⟩ = some (.int .i64 7) := by rw [← hk]; exact HS.out.cblk.cell 0
 have HK := Lib.hid hk
 clear hP hc hb0 hk
 go_enter Tryz.func31, Tryz.ntmps31
 go_upto_region 1 with (fail)
 rw [← hW0]
 clear hW0
 have c7 := HS.out.cblk.cell 7
 unfold cdC at c7
 simp only [List.getElem?_toArray, List.getElem?_cons_zero, List.getElem?_cons_succ] at c7
 obtain ⟨nm, hnm⟩ : ∃ q, q = c.name := ⟨_, rfl⟩
 rw [← hnm] at c7
 have HNM := Lib.hid hnm
 clear hnm
 go_wp2_with fail
 refine (str_any nm W0).mono ?_
 rintro e w1 ⟨rfl, hb⟩
 have HSn := Lib.hid (HS.out.ext hb)
 clear hb HS
 have HS := HSn
 clear HSn
 clear c0 c7
 obtain ⟨gd, hgd⟩ : ∃ gd, gd = w1.heap.size := ⟨_, rfl⟩
 obtain ⟨w2, hw2⟩ : ∃ w2, w2 = w1.alloc (.cells ([(kUri, strD nm)].flatMap ptC).toArray 74) := ⟨_, rfl⟩
 have hb : Below w1.heap.size w1 w2 := by rw [hw2]; exact below_a1 _ _
 have HPgd : Hid (PtsAt w2 (fun g => P g ∧ g ≠ w.heap.size + 1) (some ⟨gd, 0, none⟩) [(kUri, strD nm)]) := Lib.hid ⟨by rw [hw2, hgd]; exact row_blk (Blk.new rfl) (flat_length ptC 7 ptC_len _), fun p hp => by
  simp only [List.mem_cons, List.mem_nil_iff, or_false] at hp
  rcases hp with rfl
  exact .leaf⟩
 have HOgd : Hid (Own w2 (w.heap.size + 2) 74 7 (some ⟨gd, 0, none⟩) [(kUri, strD nm)].length [(kUri, strD nm)].length ([(kUri, strD nm)].flatMap ptC)) := Lib.hid (by have := HS.out.sz; rw [hw2, hgd]; exact own_blk (cs := ([(kUri, strD nm)].flatMap ptC).toArray) (Blk.new rfl) (by omega) (by rw [List.size_toArray]; exact flat_length ptC 7 ptC_len _) (by simp [maxLen]))
 have HSn := Lib.hid (HS.out.ext hb)
 clear hb HS
 have HS := HSn
 clear HSn
 simp only [List.flatMap_cons, List.flatMap_nil] at hw2
 try simp only [ptC_str] at hw2
 try simp only [ptC_num] at hw2
 try simp only [ptC_of] at hw2
 try simp only [List.cons_append, List.nil_append] at hw2
 simp only [List.append_nil, kUri] at hw2
 go_upto_region 2 with (fail)
 rw [← hw2, ← hgd]
 clear hw2 hgd
 have c0 : w2.cell? ⟨w.heap.size, 0, none⟩ = some (.int .i64 7) := by rw [← HK.out]; exact HS.out.cblk.cell 0
 go_upto_region 21 with (fail)
 have c11 := HS.out.cblk.cell 11
 have c12 := HS.out.cblk.cell 12
 unfold cdC at c11 c12
 simp only [List.getElem?_toArray, List.getElem?_cons_zero, List.getElem?_cons_succ] at c11 c12
 go_wp2_with fail
 refine (at_any (fun g => P g ∧ g ≠ w.heap.size + 1) c.pl c.pu w2 (HPP.out _ HS.out.sz)).mono ?_
 rintro e w3 ⟨dA, rfl, hvA, hdA, hb⟩
 have HVA := Lib.hid hvA
 have HDA := Lib.hid hdA
 clear hvA hdA c11 c12
 have HSn := Lib.hid (HS.out.ext hb)
 have HPgdn := Lib.hid (HPgd.out.ext hb)
 clear HPgd
 have HPgd := HPgdn
 clear HPgdn
 clear hb HS
 have HS := HSn
 clear HSn
 obtain ⟨gm, hgm⟩ : ∃ gm, gm = w3.heap.size := ⟨_, rfl⟩
 obtain ⟨w4, hw4⟩ : ∃ w4, w4 = w3.alloc (.cells ([(kPosition, dA)].flatMap ptC).toArray 74) := ⟨_, rfl⟩
 have hb : Below w3.heap.size w3 w4 := by rw [hw4]; exact below_a1 _ _
 have HPgm : Hid (PtsAt w4 (fun g => P g ∧ g ≠ w.heap.size + 1) (some ⟨gm, 0, none⟩) [(kPosition, dA)]) := Lib.hid ⟨by rw [hw4, hgm]; exact row_blk (Blk.new rfl) (flat_length ptC 7 ptC_len _), fun p hp => by
  simp only [List.mem_cons, List.mem_nil_iff, or_false] at hp
  rcases hp with rfl
  exact HDA.out.ext hb⟩
 have HOgm : Hid (Own w4 (w.heap.size + 2) 74 7 (some ⟨gm, 0, none⟩) [(kPosition, dA)].length [(kPosition, dA)].length ([(kPosition, dA)].flatMap ptC)) := Lib.hid (by have := HS.out.sz; rw [hw4, hgm]; exact own_blk (cs := ([(kPosition, dA)].flatMap ptC).toArray) (Blk.new rfl) (by omega) (by rw [List.size_toArray]; exact flat_length ptC 7 ptC_len _) (by simp [maxLen]))
 have HSn := Lib.hid (HS.out.ext hb)
 have HPgdn := Lib.hid (HPgd.out.ext hb)
 clear HPgd
 have HPgd := HPgdn
 clear HPgdn
 clear hb HS
 have HS := HSn
 clear HSn
 simp only [List.flatMap_cons, List.flatMap_nil] at hw4
 try simp only [ptC_str] at hw4
 try simp only [ptC_num] at hw4
 try simp only [ptC_of] at hw4
 try simp only [List.cons_append, List.nil_append] at hw4
 simp only [List.append_nil, kPosition] at hw4
 go_upto_region 22 with (fail)
 rw [← hw4, ← hgm]
 clear hw4 hgm
 go_wp2_with fail
 have hR := record_any (fun g => P g ∧ g ≠ w.heap.size + 1) (some ⟨gd, 0, none⟩) 1 [(kUri, strD nm)] w4 (HPP.out _ HS.out.sz) HPgd.out (by simp)
 simp only [List.length_cons, List.length_nil, Nat.zero_add, Nat.reduceAdd] at hR
 refine hR.mono ?_
 clear hR
 rintro e wr ⟨d1, rfl, hvd1, hdd1, hb⟩
 have HVd1 := Lib.hid hvd1
 have HDd1 := Lib.hid hdd1
 clear hvd1 hdd1
 have HSn := Lib.hid (HS.out.ext hb)
 have HPgmn := Lib.hid (HPgm.out.ext hb)
 clear HPgm
 have HPgm := HPgmn
 clear HPgmn
 clear hb HS
 have HS := HSn
 clear HSn
 go_wp2_with (at_builtin; refine wpList_append_Own rfl _ _ 75 rfl (w.heap.size + 2) 74 _ 7 104 Tryz.underlying75 Tryz.infoPart rfl (by decide) _ 1 1 [.string ⟨kDoc.toArray⟩, .int .i64 d1.sort, .bool d1.on, .int .i64 d1.n, .string ⟨d1.text.toArray⟩, .slice d1.a d1.list.length d1.c, .slice d1.ka d1.keys.length d1.kc] rfl (by exact own_blk (cs := #[.string ⟨kDoc.toArray⟩, .int .i64 d1.sort, .bool d1.on, .int .i64 d1.n, .string ⟨d1.text.toArray⟩, .slice d1.a d1.list.length d1.c, .slice d1.ka d1.keys.length d1.kc]) (Blk.new rfl) HS.out.sz rfl (by simp [maxLen])) (some ⟨gm, 0, none⟩) 1 1 ([(kPosition, dA)].flatMap ptC) rfl (HPgm.out.row.ext (below_a1 _ _)) ptC_one (by simp [maxLen]) (by simp) (by have := HS.out.sz; simp; omega) ?_; intro a5 c5 w5 ho5 hg5 hb5)
 have hb : Below wr.heap.size wr w5 := (below_a1 wr _).grown hg5 (by simp) (fun k hk => by simp [rowOf, blockOf] at hk; omega)
 have HR5 : Hid (Row w5 7 a5 ((kDoc, d1) :: [(kPosition, dA)]).length (((kDoc, d1) :: [(kPosition, dA)]).flatMap ptC)) := Lib.hid (by rw [List.flatMap_cons, ptC_of]; exact ho5.row)
 clear ho5 hg5 hb5
 have HSn := Lib.hid (HS.out.ext hb)
 have HDd1n := Lib.hid (HDd1.out.ext hb)
 clear HDd1
 have HDd1 := HDd1n
 clear HDd1n
 have HPgmn := Lib.hid (HPgm.out.ext hb)
 clear HPgm
 have HPgm := HPgmn
 clear HPgmn
 clear hb HS
 have HS := HSn
 clear HSn
 have HP5 : Hid (PtsAt w5 (fun g => P g ∧ g ≠ w.heap.size + 1) a5 ((kDoc, d1) :: [(kPosition, dA)])) := Lib.hid ⟨HR5.out, fun p hp => by
  rcases List.mem_cons.1 hp with rfl | hp
  ·
   exact HDd1.out
  ·
   exact HPgm.out.vals p hp⟩
 try simp only [Nat.reduceAdd]
 have hR := record_any (fun g => P g ∧ g ≠ w.heap.size + 1) a5 c5 ((kDoc, d1) :: [(kPosition, dA)]) w5 (HPP.out _ HS.out.sz) HP5.out (by simp)
 simp only [List.length_cons, List.length_nil, Nat.zero_add, Nat.reduceAdd] at hR
 refine hR.mono ?_
 clear hR
 rintro e wy ⟨d2, rfl, hvd2, hdd2, hb⟩
 have HVd2 := Lib.hid hvd2
 have HDd2 := Lib.hid hdd2
 clear hvd2 hdd2
 have HSn := Lib.hid (HS.out.ext hb)
 clear hb HS
 have HS := HSn
 clear HSn
 have f0 := HS.out.rblk.free 0
 have f1 := HS.out.rblk.free 1
 have f2 := HS.out.rblk.free 2
 have f3 := HS.out.rblk.free 3
 have f4 := HS.out.rblk.free 4
 have f5 := HS.out.rblk.free 5
 obtain ⟨z0, z1, z2, z3, z4, z5⟩ := HS.out.rblk.sixT
 go_wp2
 refine params_end (g := w.heap.size + 1) rfl (store6 HS.out.rblk) ?_
 refine docS (P := P) (o := 0) ?_ HDd2.out (fun g h => ⟨h.2, h.1⟩) HS.out.below (by omega)
 rw [HVd2.out, paramsW_7 _ (by show c.kind.toNat = 7; rw [HK.out]; rfl)]
 show recW [(kDoc, d1.v), (kPosition, dA.v)] = _
 rw [HVd1.out, HVA.out, HNM.out]
 rfl
set_option maxHeartbeats 4000000 in
set_option maxRecDepth 20000 in
theorem params_4 (P : Nat → Prop) (c : CD) (w : World) (hP : ∀ g, w.heap.size ≤ g → P g) (hk : c.kind = 4) (hc : ValAt w P c.other) : Calls Tryz.prog 31 #[.agg (cdC c)] w (DocP w P (paramsW c.k)) := by
 obtain ⟨W0, hW0⟩ : ∃ W0, W0 = (w.alloc (.cells (cdC c) 43)).alloc (.cells #[.int .i64 0, .bool false, .int .i64 0, .string { data := #[] }, .slice none 0 0, .slice none 0 0] 36) := ⟨_, rfl⟩
 have hb0 : Below w.heap.size w W0 := by rw [hW0]; exact (below_a1 w _).alloc (by simp) _
 have HS : Hid (PaS w c W0) := Lib.hid ⟨hb0, by rw [hW0]; exact (Blk.new rfl).alloc _, by rw [hW0]; exact Blk.new (by simp)⟩
 have HOV : Hid (ValAt w (fun g => P g ∧ g ≠ w.heap.size + 1) c.other) := Lib.hid (hc.mono fun g h1 h2 => ⟨h1, by omega⟩)
 have HP := Lib.hid hP
 have HPP : Hid (∀ W : World, w.heap.size + 2 ≤ W.heap.size → ∀ g, W.heap.size ≤ g → (P g ∧ g ≠ w.heap.size + 1)) := Lib.hid fun W h g hg => ⟨hP g (by omega), by omega⟩
 have c0 : W0.cell? ⟨w.heap.size, 0, none⟩ = some (.int .i64 4) := by rw [← hk]; exact HS.out.cblk.cell 0
 have HK := Lib.hid hk
 clear hP hc hb0 hk
 go_enter Tryz.func31, Tryz.ntmps31
 go_upto_region 1 with (fail)
 rw [← hW0]
 clear hW0
 have c7 := HS.out.cblk.cell 7
 unfold cdC at c7
 simp only [List.getElem?_toArray, List.getElem?_cons_zero, List.getElem?_cons_succ] at c7
 obtain ⟨nm, hnm⟩ : ∃ q, q = c.name := ⟨_, rfl⟩
 rw [← hnm] at c7
 have HNM := Lib.hid hnm
 clear hnm
 go_wp2_with fail
 refine (str_any nm W0).mono ?_
 rintro e w1 ⟨rfl, hb⟩
 have HSn := Lib.hid (HS.out.ext hb)
 clear hb HS
 have HS := HSn
 clear HSn
 clear c0 c7
 obtain ⟨gd, hgd⟩ : ∃ gd, gd = w1.heap.size := ⟨_, rfl⟩
 obtain ⟨w2, hw2⟩ : ∃ w2, w2 = w1.alloc (.cells ([(kUri, strD nm)].flatMap ptC).toArray 74) := ⟨_, rfl⟩
 have hb : Below w1.heap.size w1 w2 := by rw [hw2]; exact below_a1 _ _
 have HPgd : Hid (PtsAt w2 (fun g => P g ∧ g ≠ w.heap.size + 1) (some ⟨gd, 0, none⟩) [(kUri, strD nm)]) := Lib.hid ⟨by rw [hw2, hgd]; exact row_blk (Blk.new rfl) (flat_length ptC 7 ptC_len _), fun p hp => by
  simp only [List.mem_cons, List.mem_nil_iff, or_false] at hp
  rcases hp with rfl
  exact .leaf⟩
 have HOgd : Hid (Own w2 (w.heap.size + 2) 74 7 (some ⟨gd, 0, none⟩) [(kUri, strD nm)].length [(kUri, strD nm)].length ([(kUri, strD nm)].flatMap ptC)) := Lib.hid (by have := HS.out.sz; rw [hw2, hgd]; exact own_blk (cs := ([(kUri, strD nm)].flatMap ptC).toArray) (Blk.new rfl) (by omega) (by rw [List.size_toArray]; exact flat_length ptC 7 ptC_len _) (by simp [maxLen]))
 have HSn := Lib.hid (HS.out.ext hb)
 clear hb HS
 have HS := HSn
 clear HSn
 simp only [List.flatMap_cons, List.flatMap_nil] at hw2
 try simp only [ptC_str] at hw2
 try simp only [ptC_num] at hw2
 try simp only [ptC_of] at hw2
 try simp only [List.cons_append, List.nil_append] at hw2
 simp only [List.append_nil, kUri] at hw2
 go_upto_region 2 with (fail)
 rw [← hw2, ← hgd]
 clear hw2 hgd
 have c0 : w2.cell? ⟨w.heap.size, 0, none⟩ = some (.int .i64 4) := by rw [← HK.out]; exact HS.out.cblk.cell 0
 obtain ⟨ver, hver⟩ : ∃ q, q = c.version := ⟨_, rfl⟩
 obtain ⟨txt, htxt⟩ : ∃ q, q = c.text := ⟨_, rfl⟩
 have HVER := Lib.hid hver
 have HTXT := Lib.hid htxt
 have HKS : Hid (∀ W, PaS w c W → (fun w' => w'.cell? ⟨w.heap.size, 8, none⟩ = some (.int .i64 ver) ∧ w'.cell? ⟨w.heap.size, 9, none⟩ = some (.string ⟨txt.toArray⟩)) W) := Lib.hid fun W h => ⟨by rw [hver]; exact h.cblk.cell 8, by rw [htxt]; exact h.cblk.cell 9⟩
 clear hver htxt
 go_upto_region 7 with (fail)
 clear c0
 have HSd := Lib.hid (HS.out.ext (Below.refl w2.heap.size w2).drew)
 obtain ⟨Wd, hWd⟩ : ∃ Wd, Wd = w2.drew := ⟨_, rfl⟩
 have hb : Below w2.heap.size w2 Wd := by rw [hWd]; exact (Below.refl _ _).drew
 have HSn := Lib.hid (HS.out.ext hb)
 have HPgdn := Lib.hid (HPgd.out.ext hb)
 clear HPgd
 have HPgd := HPgdn
 clear HPgdn
 have HOgdn := Lib.hid (HOgd.out.ext hb)
 clear HOgd
 have HOgd := HOgdn
 clear HOgdn
 clear hb HS
 have HS := HSn
 clear HSn
 refine wp_region_held_drew (S := (fun w' => w'.cell? ⟨w.heap.size, 8, none⟩ = some (.int .i64 ver) ∧ w'.cell? ⟨w.heap.size, 9, none⟩ = some (.string ⟨txt.toArray⟩))) (by kernel_rfl) ?_ (fun hHeld => ?_)
 ·
  exact HKS.out _ HSd.out
 rw [← hWd] at hHeld ⊢
 clear hWd HSd
 refine wpAnyH_take (i := 0) (oi := ⟨some 25, _, _, _, _, _⟩) (v := ?_) rfl (by kernel_rfl) (by kernel_rfl) (by kernel_rfl) (fun _ _ _ h => h) (Or.inl ⟨by rfl, ?_⟩) (by assumption) ?_; rotate_left; focus (intro w hSw; (try dsimp only at hSw); first | (go_simp; done) | (go_simp; with_reducible rfl))
 try simp only [Act.put, List.setIfInBounds_toArray, List.set_cons_succ, List.set_cons_zero]
 refine wpAnyH_take (i := 1) (oi := ⟨some 26, _, _, _, _, _⟩) (v := ?_) rfl (by kernel_rfl) (by kernel_rfl) (by kernel_rfl) (fun _ _ _ h => h) (Or.inl ⟨by rfl, ?_⟩) (by assumption) ?_; rotate_left; focus (intro w hSw; (try dsimp only at hSw); first | (go_simp; done) | (go_simp; with_reducible rfl))
 try simp only [Act.put, List.setIfInBounds_toArray, List.set_cons_succ, List.set_cons_zero]
 refine wpAnyH_take (i := 2) (oi := ⟨some 27, _, _, _, _, _⟩) (v := ?_) rfl (by kernel_rfl) (by kernel_rfl) (by kernel_rfl) (fun _ _ _ h => h) (Or.inl ⟨by rfl, ?_⟩) (by assumption) ?_; rotate_left; focus (intro w hSw; (try dsimp only at hSw); obtain ⟨q8, q9⟩ := hSw; first | (go_simp; done) | (go_simp; with_reducible rfl))
 try simp only [Act.put, List.setIfInBounds_toArray, List.set_cons_succ, List.set_cons_zero]
 refine wpAnyH_take (i := 5) (oi := ⟨some 30, _, _, _, _, _⟩) (v := ?_) rfl (by kernel_rfl) (by kernel_rfl) (by kernel_rfl) (fun _ _ _ h => h) (Or.inl ⟨by rfl, ?_⟩) (by assumption) ?_; rotate_left; focus (intro w hSw; (try dsimp only at hSw); first | (go_simp; done) | (go_simp; with_reducible rfl))
 try simp only [Act.put, List.setIfInBounds_toArray, List.set_cons_succ, List.set_cons_zero]
 refine wpAnyH_take (i := 6) (oi := ⟨some 31, _, _, _, _, _⟩) (v := ?_) rfl (by kernel_rfl) (by kernel_rfl) (by kernel_rfl) (fun _ _ _ h => h) (Or.inl ⟨by rfl, ?_⟩) (by assumption) ?_; rotate_left; focus (intro w hSw; (try dsimp only at hSw); obtain ⟨q8, q9⟩ := hSw; first | (go_simp; done) | (go_simp; with_reducible rfl))
 try simp only [Act.put, List.setIfInBounds_toArray, List.set_cons_succ, List.set_cons_zero]
 refine wpAnyH_ready (rs := [3]) (by kernel_rfl) (by simp) ?_
 refine AllReadyH.cons (i := 3) (o := ⟨some 28, _, _, _, _, _⟩) rfl (fun K hK => ?_) ?_
 ·
  go_simp
  refine (num_any ver _).mono ?_
  rintro e ws ⟨rfl, hb⟩
  have HSn := Lib.hid (HS.out.ext hb)
  have HPgdn := Lib.hid (HPgd.out.ext hb)
  clear HPgd
  have HPgd := HPgdn
  clear HPgdn
  have HOgdn := Lib.hid (HOgd.out.ext hb)
  clear HOgd
  have HOgd := HOgdn
  clear HOgdn
  clear hb HS
  have HS := HSn
  clear HSn
  refine hK.out _ _ ?_ (fun hHeld => ?_)
  ·
   exact HKS.out _ HS.out
  try simp only [Act.put, List.setIfInBounds_toArray, List.set_cons_succ, List.set_cons_zero]
  refine wpAnyH_take (i := 4) (oi := ⟨some 29, _, _, _, _, _⟩) (v := ?_) rfl (by kernel_rfl) (by kernel_rfl) (by kernel_rfl) (fun _ _ _ h => h) (Or.inl ⟨by rfl, ?_⟩) (by assumption) ?_; rotate_left; focus (intro w hSw; (try dsimp only at hSw); first | (go_simp; done) | (go_simp; with_reducible rfl))
  try simp only [Act.put, List.setIfInBounds_toArray, List.set_cons_succ, List.set_cons_zero]
  refine wpAnyH_ready (rs := [7]) (by kernel_rfl) (by simp) ?_
  refine AllReadyH.cons (i := 7) (o := ⟨some 32, _, _, _, _, _⟩) rfl (fun K hK => ?_) ?_
  ·
   go_simp
   refine (str_any txt _).mono ?_
   rintro e wt ⟨rfl, hb⟩
   have HSn := Lib.hid (HS.out.ext hb)
   have HPgdn := Lib.hid (HPgd.out.ext hb)
   clear HPgd
   have HPgd := HPgdn
   clear HPgdn
   have HOgdn := Lib.hid (HOgd.out.ext hb)
   clear HOgd
   have HOgd := HOgdn
   clear HOgdn
   clear hb HS
   have HS := HSn
   clear HSn
   refine hK.out _ _ ?_ (fun hHeld => ?_)
   ·
    exact HKS.out _ HS.out
   try simp only [Act.put, List.setIfInBounds_toArray, List.set_cons_succ, List.set_cons_zero]
   refine wpAnyH_take (i := 8) (oi := ⟨some 33, _, _, _, _, _⟩) (v := ?_) rfl (by kernel_rfl) (by kernel_rfl) (by kernel_rfl) (fun _ _ _ h => h) (Or.inl ⟨by rfl, ?_⟩) (by assumption) ?_; rotate_left; focus (intro w hSw; (try dsimp only at hSw); first | (go_simp; done) | (go_simp; with_reducible rfl))
   try simp only [Act.put, List.setIfInBounds_toArray, List.set_cons_succ, List.set_cons_zero]
   refine wpAnyH_ready (rs := [9]) (by kernel_rfl) (by simp) ?_
   refine AllReadyH.cons (i := 9) (o := ⟨some 34, _, _, _, _, _⟩) rfl (fun K hK => ?_) ?_
   ·
    obtain ⟨gv, hgv⟩ : ∃ gv, gv = wt.heap.size := ⟨_, rfl⟩
    obtain ⟨wv, hwv⟩ : ∃ wv, wv = wt.alloc (.cells ([(kVersion, numD ver), (kText, strD txt)].flatMap ptC).toArray 74) := ⟨_, rfl⟩
    have hb : Below wt.heap.size wt wv := by rw [hwv]; exact below_a1 _ _
    have HPgv : Hid (PtsAt wv (fun g => P g ∧ g ≠ w.heap.size + 1) (some ⟨gv, 0, none⟩) [(kVersion, numD ver), (kText, strD txt)]) := Lib.hid ⟨by rw [hwv, hgv]; exact row_blk (Blk.new rfl) (flat_length ptC 7 ptC_len _), fun p hp => by
     simp only [List.mem_cons, List.mem_nil_iff, or_false] at hp
     rcases hp with rfl | rfl
     ·
      exact .leaf
     ·
      exact .leaf⟩
    have HOgv : Hid (Own wv (w.heap.size + 2) 74 7 (some ⟨gv, 0, none⟩) [(kVersion, numD ver), (kText, strD txt)].length [(kVersion, numD ver), (kText, strD txt)].length ([(kVersion, numD ver), (kText, strD txt)].flatMap ptC)) := Lib.hid (by have := HS.out.sz; rw [hwv, hgv]; exact own_blk (cs := ([(kVersion, numD ver), (kText, strD txt)].flatMap ptC).toArray) (Blk.new rfl) (by omega) (by rw [List.size_toArray]; exact flat_length ptC 7 ptC_len _) (by simp [maxLen]))
    have HSn := Lib.hid (HS.out.ext hb)
    have HPgdn := Lib.hid (HPgd.out.ext hb)
    clear HPgd
    have HPgd := HPgdn
    clear HPgdn
    have HOgdn := Lib.hid (HOgd.out.ext hb)
    clear HOgd
    have HOgd := HOgdn
    clear HOgdn
    clear hb HS
    have HS := HSn
    clear HSn
    simp only [List.flatMap_cons, List.flatMap_nil] at hwv
    try simp only [ptC_str] at hwv
    try simp only [ptC_num] at hwv
    try simp only [ptC_of] at hwv
    try simp only [List.cons_append, List.nil_append] at hwv
    simp only [List.append_nil, kVersion, kText] at hwv
    go_simp
    rw [← hwv, ← hgv]
    clear hwv hgv
    refine hK.out _ _ ?_ (fun hHeld => ?_)
    ·
     exact HKS.out _ HS.out
    try simp only [Act.put, List.setIfInBounds_toArray, List.set_cons_succ, List.set_cons_zero]
    refine wpAnyH_ready (rs := [10]) (by kernel_rfl) (by simp) ?_
    refine AllReadyH.cons (i := 10) (o := ⟨some 35, _, _, _, _, _⟩) rfl (fun K hK => ?_) ?_
    ·
     refine step_append_Own (act := ⟨_, []⟩) rfl (.tmp 25) (.tmp 34) 75 rfl (w.heap.size + 2) 74 _ 7 104 Tryz.underlying75 Tryz.infoPart rfl (by decide) (some ⟨gd, 0, none⟩) 1 1 _ (by simp [go_sem]) HOgd.out (some ⟨gv, 0, none⟩) 2 2 _ (by simp [go_sem]) HPgv.out.row ptC_one (by simp [maxLen]) (by simp) HS.out.sz ?_
     intro a7 c7 w7 ho7 hg7 hb7
     simp only [Act.put, List.setIfInBounds_toArray, List.set_cons_succ, List.set_cons_zero]
     have HSn := Lib.hid (HS.out.grow hg7 (HOgd.out.rowBase (Nat.le_refl _)))
     have HP7 : Hid (PtsAt w7 (fun g => P g ∧ g ≠ w.heap.size + 1) a7 [(kUri, strD nm), (kVersion, numD ver), (kText, strD txt)]) := Lib.hid ⟨ho7.row, fun p hp => by
      simp only [List.mem_cons, List.mem_nil_iff, or_false] at hp
      rcases hp with rfl | rfl | rfl
      ·
       exact .leaf
      ·
       exact .leaf
      ·
       exact .leaf⟩
     clear HS ho7 hg7 hb7
     have HS := HSn
     clear HSn
     refine hK.out _ _ ?_ (fun hHeld => ?_)
     ·
      exact HKS.out _ HS.out
     try simp only [Act.put, List.setIfInBounds_toArray, List.set_cons_succ, List.set_cons_zero]
     refine wpAnyH_take (i := 11) (oi := ⟨some 3, _, _, _, _, _⟩) (v := ?_) rfl (by kernel_rfl) (by kernel_rfl) (by kernel_rfl) (fun _ _ _ h => h) (Or.inl ⟨by rfl, ?_⟩) (by assumption) ?_; rotate_left; focus (intro w hSw; (try dsimp only at hSw); first | (go_simp; done) | (go_simp; with_reducible rfl))
     try simp only [Act.put, List.setIfInBounds_toArray, List.set_cons_succ, List.set_cons_zero]
     refine wpAnyH_done (by kernel_rfl) ?_ _
     clear hHeld
     go_upto_region 22 with (fail)
     go_wp2_with fail
     have hR := record_any (fun g => P g ∧ g ≠ w.heap.size + 1) a7 c7 [(kUri, strD nm), (kVersion, numD ver), (kText, strD txt)] w7 (HPP.out _ HS.out.sz) HP7.out (by simp)
     simp only [List.length_cons, List.length_nil, Nat.zero_add, Nat.reduceAdd] at hR
     refine hR.mono ?_
     clear hR
     rintro e wr ⟨d1, rfl, hvd1, hdd1, hb⟩
     have HVd1 := Lib.hid hvd1
     have HDd1 := Lib.hid hdd1
     clear hvd1 hdd1
     have HSn := Lib.hid (HS.out.ext hb)
     clear hb HS
     have HS := HSn
     clear HSn
     go_wp2_with (at_builtin; refine wpList_append_Own rfl _ _ 75 rfl (w.heap.size + 2) 74 _ 7 104 Tryz.underlying75 Tryz.infoPart rfl (by decide) _ 1 1 [.string ⟨kDoc.toArray⟩, .int .i64 d1.sort, .bool d1.on, .int .i64 d1.n, .string ⟨d1.text.toArray⟩, .slice d1.a d1.list.length d1.c, .slice d1.ka d1.keys.length d1.kc] rfl (by exact own_blk (cs := #[.string ⟨kDoc.toArray⟩, .int .i64 d1.sort, .bool d1.on, .int .i64 d1.n, .string ⟨d1.text.toArray⟩, .slice d1.a d1.list.length d1.c, .slice d1.ka d1.keys.length d1.kc]) (Blk.new rfl) HS.out.sz rfl (by simp [maxLen])) none 0 0 (([] : List Pt).flatMap ptC) rfl (Row.nil _ _ _) ptC_one (by simp [maxLen]) (by simp) (by have := HS.out.sz; simp; omega) ?_; intro a5 c5 w5 ho5 hg5 hb5)
     have hb : Below wr.heap.size wr w5 := (below_a1 wr _).grown hg5 (by simp) (fun k hk => by simp [rowOf, blockOf] at hk; omega)
     have HR5 : Hid (Row w5 7 a5 ((kDoc, d1) :: ([] : List Pt)).length (((kDoc, d1) :: ([] : List Pt)).flatMap ptC)) := Lib.hid (by rw [List.flatMap_cons, ptC_of]; exact ho5.row)
     clear ho5 hg5 hb5
     have HSn := Lib.hid (HS.out.ext hb)
     have HDd1n := Lib.hid (HDd1.out.ext hb)
     clear HDd1
     have HDd1 := HDd1n
     clear HDd1n
     clear hb HS
     have HS := HSn
     clear HSn
     have HP5 : Hid (PtsAt w5 (fun g => P g ∧ g ≠ w.heap.size + 1) a5 ((kDoc, d1) :: ([] : List Pt))) := Lib.hid ⟨HR5.out, fun p hp => by
      rcases List.mem_cons.1 hp with rfl | hp
      ·
       exact HDd1.out
      ·
       cases hp⟩
     try simp only [Nat.reduceAdd]
     have hR := record_any (fun g => P g ∧ g ≠ w.heap.size + 1) a5 c5 ((kDoc, d1) :: ([] : List Pt)) w5 (HPP.out _ HS.out.sz) HP5.out (by simp)
     simp only [List.length_cons, List.length_nil, Nat.zero_add, Nat.reduceAdd] at hR
     refine hR.mono ?_
     clear hR
     rintro e wy ⟨d2, rfl, hvd2, hdd2, hb⟩
     have HVd2 := Lib.hid hvd2
     have HDd2 := Lib.hid hdd2
     clear hvd2 hdd2
     have HSn := Lib.hid (HS.out.ext hb)
     clear hb HS
     have HS := HSn
     clear HSn
     have f0 := HS.out.rblk.free 0
     have f1 := HS.out.rblk.free 1
     have f2 := HS.out.rblk.free 2
     have f3 := HS.out.rblk.free 3
     have f4 := HS.out.rblk.free 4
     have f5 := HS.out.rblk.free 5
     obtain ⟨z0, z1, z2, z3, z4, z5⟩ := HS.out.rblk.sixT
     go_wp2
     refine params_end (g := w.heap.size + 1) rfl (store6 HS.out.rblk) ?_
     refine docS (P := P) (o := 0) ?_ HDd2.out (fun g h => ⟨h.2, h.1⟩) HS.out.below (by omega)
     rw [HVd2.out, paramsW_4 _ (by show c.kind.toNat = 4; rw [HK.out]; rfl)]
     show recW [(kDoc, d1.v)] = _
     rw [HVd1.out, HNM.out, HVER.out, HTXT.out]
     rfl
    exact AllReadyH.nil
   exact AllReadyH.nil
  exact AllReadyH.nil
 exact AllReadyH.nil
end Go.Proofs.YthnbeebilomchaaGreatDoor

namespace Go.Proofs.YthnbeebilomchaaGreatDoor
open Go Go.RowKit

def Sinc (A W : World) : Prop := Below A.heap.size A W
theorem Sinc.ext {A W W' : World} (h : Sinc A W) (hb : Below W.heap.size W W') : Sinc A W' := Below.trans h (hb.mono h.size)
theorem own_lt2 {W : World} {base sz n c : Nat} {T : TypeId} {a : Option Addr} {xs : List Value} (h : Own W base T sz a n c xs) {g : Nat} (hg : W.heap.size ≤ g) : rowOf a c ≠ some g := fun e => own_new h hg e.symm
structure LpS (w : World) (P : Nat → Prop) (c : CD) (gl : Nat) (ad : Option Addr) (cd : Nat) (D : List Pt) (la : Option Addr) (lc : Nat) (acc : List VD) (W : World) : Prop where
  pas : PaS w c W
  od : Own W (w.heap.size + 2) 74 7 ad D.length cd (D.flatMap ptC)
  lb : Blk W gl #[.int .i64 4, .bool false, .int .i64 0, .string { data := #[] }, .slice la acc.length lc, .slice none 0 0] 36
  lo : Own W (w.heap.size + 2) 36 6 la acc.length lc (acc.flatMap VD.cells)
  lne : rowOf la lc ≠ some gl
  glb : w.heap.size + 2 ≤ gl
  vals : ∀ x ∈ acc, ValAt W (fun g => (P g ∧ g ≠ w.heap.size + 1) ∧ g ≠ gl ∧ rowOf la lc ≠ some g) x
section
variable {w : World} {P : Nat → Prop} {c : CD} {gl : Nat} {ad : Option Addr} {cd : Nat} {D : List Pt} {la : Option Addr} {lc : Nat} {acc : List VD} {W W' : World}
theorem LpS.ext (h : LpS w P c gl ad cd D la lc acc W) (hb : Below W.heap.size W W') : LpS w P c gl ad cd D la lc acc W' :=
  ⟨h.pas.ext hb, h.od.ext hb, h.lb.ext hb, h.lo.ext hb, h.lne, h.glb, fun x hx => (h.vals x hx).ext hb⟩
theorem LpS.px (h : LpS w P c gl ad cd D la lc acc W) (hP : ∀ g, w.heap.size ≤ g → P g) : ∀ g, W.heap.size ≤ g → (P g ∧ g ≠ w.heap.size + 1) ∧ g ≠ gl ∧ rowOf la lc ≠ some g := by
  intro g hg
  have h1 := h.pas.sz
  have h2 := h.lb.lt
  exact ⟨⟨hP g (by omega), by omega⟩, by omega, own_lt2 h.lo hg⟩
theorem LpS.more (h : LpS w P c gl ad cd D la lc acc W) {x : VD} (hx : ValAt W (fun g => (P g ∧ g ≠ w.heap.size + 1) ∧ g ≠ gl ∧ rowOf la lc ≠ some g) x) {a : Option Addr} {k : Nat} (ho : Own W' (w.heap.size + 2) 36 6 a (acc.length + 1) k (acc.flatMap VD.cells ++ x.cells)) (hg : W.grownBy W' (rowOf la lc))
  (hb : rowOf a k = rowOf la lc ∨ rowOf a k = some W.heap.size) : LpS w P c gl ad cd D a k (acc ++ [x]) (W'.setCell ⟨gl, 4, none⟩ (.slice a (acc.length + 1) k)) := by
 have hlo := h.lo.rowBase (Nat.le_refl _)
 have hgl := h.glb
 have hlt := h.lb.lt
 have hne : rowOf a k ≠ some gl := rowOf_apart h.lne hlt hb
 have hT : 36 ≠ 74 := by decide
 have hpas := h.pas.grow hg hlo
 have q0 : w.heap.size ≠ gl := by omega
 have q1 : w.heap.size + 1 ≠ gl := by omega
 have hv : ∀ y, ValAt W (fun g => (P g ∧ g ≠ w.heap.size + 1) ∧ g ≠ gl ∧ rowOf la lc ≠ some g) y → ValAt (W'.setCell ⟨gl, 4, none⟩ (.slice a (acc.length + 1) k)) (fun g => (P g ∧ g ≠ w.heap.size + 1) ∧ g ≠ gl ∧ rowOf a k ≠ some g) y := fun y hy =>
  ((hy.mono (q := fun g => ((P g ∧ g ≠ w.heap.size + 1) ∧ g ≠ gl ∧ rowOf la lc ≠ some g) ∧ g < W.heap.size) fun g h1 h2 => ⟨h1, h2⟩).congr fun g h1 _ => (Below.heap_setCell W' _ _ g h1.1.2.1).trans (hg.block g h1.2 (fun e => h1.1.2.2 e.symm))).mono fun g h1 _ => ⟨h1.1.1, h1.1.2.1, fun e => by
   rcases hb with hb | hb
   ·
    rw [hb] at e; exact h1.1.2.2 e
   ·
    rw [hb] at e; simp at e; omega⟩
 refine ⟨⟨hpas.below.setCell (p := ⟨gl, 4, none⟩) (by show w.heap.size ≤ gl; omega) _, hpas.cblk.other (p := ⟨gl, 4, none⟩) q0 _, hpas.rblk.other (p := ⟨gl, 4, none⟩) q1 _⟩, (h.od.keptType h.lo (Ne.symm hT) hg).setCell_row (p := ⟨gl, 4, none⟩) (fun e => (h.od.notBlk h.lb hT) e.symm) _, ?_, ?_, hne, h.glb, fun y hy => ?_⟩
 ·
  rw [List.length_append]
  exact (h.lb.grown hg (fun e => h.lne e.symm)).set 4 _
 ·
  rw [List.length_append, List.flatMap_append, List.flatMap_singleton]
  exact ho.setCell_row (p := ⟨gl, 4, none⟩) hne _
 ·
  rcases List.mem_append.1 hy with hy | hy
  ·
   exact hv y (h.vals y hy)
  ·
   rw [List.mem_singleton] at hy; subst hy; exact hv y hx
end
set_option maxHeartbeats 4000000 in
set_option maxRecDepth 20000 in
theorem params_5 (P : Nat → Prop) (c : CD) (w : World) (hP : ∀ g, w.heap.size ≤ g → P g) (hk : c.kind = 5) (hc : ValAt w P c.other) (hrow : Row w 6 c.a c.changes.length (c.changes.flatMap E.cells)) (hn : c.changes.length ≤ 1048576) : Calls Tryz.prog 31 #[.agg (cdC c)] w (DocP w P (paramsW c.k)) := by
 obtain ⟨W0, hW0⟩ : ∃ W0, W0 = (w.alloc (.cells (cdC c) 43)).alloc (.cells #[.int .i64 0, .bool false, .int .i64 0, .string { data := #[] }, .slice none 0 0, .slice none 0 0] 36) := ⟨_, rfl⟩
 have hb0 : Below w.heap.size w W0 := by rw [hW0]; exact (below_a1 w _).alloc (by simp) _
 have HS : Hid (PaS w c W0) := Lib.hid ⟨hb0, by rw [hW0]; exact (Blk.new rfl).alloc _, by rw [hW0]; exact Blk.new (by simp)⟩
 have HOV : Hid (ValAt w (fun g => P g ∧ g ≠ w.heap.size + 1) c.other) := Lib.hid (hc.mono fun g h1 h2 => ⟨h1, by omega⟩)
 have HP := Lib.hid hP
 have HCR := Lib.hid hrow
 have HCL := Lib.hid hn
 clear hrow hn
 have HPP : Hid (∀ W : World, w.heap.size + 2 ≤ W.heap.size → ∀ g, W.heap.size ≤ g → (P g ∧ g ≠ w.heap.size + 1)) := Lib.hid fun W h g hg => ⟨hP g (by omega), by omega⟩
 have c0 : W0.cell? ⟨w.heap.size, 0, none⟩ = some (.int .i64 5) := by rw [← hk]; exact HS.out.cblk.cell 0
 have HK := Lib.hid hk
 clear hP hc hb0 hk
 go_enter Tryz.func31, Tryz.ntmps31
 go_upto_region 1 with (fail)
 rw [← hW0]
 clear hW0
 have c7 := HS.out.cblk.cell 7
 unfold cdC at c7
 simp only [List.getElem?_toArray, List.getElem?_cons_zero, List.getElem?_cons_succ] at c7
 obtain ⟨nm, hnm⟩ : ∃ q, q = c.name := ⟨_, rfl⟩
 rw [← hnm] at c7
 have HNM := Lib.hid hnm
 clear hnm
 go_wp2_with fail
 refine (str_any nm W0).mono ?_
 rintro e w1 ⟨rfl, hb⟩
 have HSn := Lib.hid (HS.out.ext hb)
 clear hb HS
 have HS := HSn
 clear HSn
 clear c0 c7
 obtain ⟨gd, hgd⟩ : ∃ gd, gd = w1.heap.size := ⟨_, rfl⟩
 obtain ⟨w2, hw2⟩ : ∃ w2, w2 = w1.alloc (.cells ([(kUri, strD nm)].flatMap ptC).toArray 74) := ⟨_, rfl⟩
 have hb : Below w1.heap.size w1 w2 := by rw [hw2]; exact below_a1 _ _
 have HPgd : Hid (PtsAt w2 (fun g => P g ∧ g ≠ w.heap.size + 1) (some ⟨gd, 0, none⟩) [(kUri, strD nm)]) := Lib.hid ⟨by rw [hw2, hgd]; exact row_blk (Blk.new rfl) (flat_length ptC 7 ptC_len _), fun p hp => by
  simp only [List.mem_cons, List.mem_nil_iff, or_false] at hp
  rcases hp with rfl
  exact .leaf⟩
 have HOgd : Hid (Own w2 (w.heap.size + 2) 74 7 (some ⟨gd, 0, none⟩) [(kUri, strD nm)].length [(kUri, strD nm)].length ([(kUri, strD nm)].flatMap ptC)) := Lib.hid (by have := HS.out.sz; rw [hw2, hgd]; exact own_blk (cs := ([(kUri, strD nm)].flatMap ptC).toArray) (Blk.new rfl) (by omega) (by rw [List.size_toArray]; exact flat_length ptC 7 ptC_len _) (by simp [maxLen]))
 have HSn := Lib.hid (HS.out.ext hb)
 clear hb HS
 have HS := HSn
 clear HSn
 simp only [List.flatMap_cons, List.flatMap_nil] at hw2
 try simp only [ptC_str] at hw2
 try simp only [ptC_num] at hw2
 try simp only [ptC_of] at hw2
 try simp only [List.cons_append, List.nil_append] at hw2
 simp only [List.append_nil, kUri] at hw2
 go_upto_region 2 with (fail)
 rw [← hw2, ← hgd]
 clear hw2 hgd
 have c0 : w2.cell? ⟨w.heap.size, 0, none⟩ = some (.int .i64 5) := by rw [← HK.out]; exact HS.out.cblk.cell 0
 obtain ⟨ver, hver⟩ : ∃ q, q = c.version := ⟨_, rfl⟩
 have HVER := Lib.hid hver
 have c8 : w2.cell? ⟨w.heap.size, 8, none⟩ = some (.int .i64 ver) := by rw [hver]; exact HS.out.cblk.cell 8
 clear hver
 go_upto_region 9 with (fail)
 clear c0
 go_wp2_with fail
 refine (num_any ver w2).mono ?_
 rintro e w3 ⟨rfl, hb⟩
 clear c8
 have HSn := Lib.hid (HS.out.ext hb)
 have HPgdn := Lib.hid (HPgd.out.ext hb)
 clear HPgd
 have HPgd := HPgdn
 clear HPgdn
 have HOgdn := Lib.hid (HOgd.out.ext hb)
 clear HOgd
 have HOgd := HOgdn
 clear HOgdn
 clear hb HS
 have HS := HSn
 clear HSn
 go_upto_region 10 with (at_builtin; refine wpList_append_Own rfl _ _ 75 rfl (w.heap.size + 2) 74 _ 7 104 Tryz.underlying75 Tryz.infoPart rfl (by decide) (some ⟨gd, 0, none⟩) 1 1 _ rfl (HOgd.out.alloc _) _ 1 1 [.string ⟨kVersion.toArray⟩, .int .i64 2, .bool false, .int .i64 ver, .string { data := #[] }, .slice none 0 0, .slice none 0 0] rfl (Row.new1 (by simp) rfl rfl) (by intro u hu; simp at hu; rcases hu with rfl | rfl | rfl | rfl | rfl | rfl | rfl <;> rfl) (by simp [maxLen]) (by simp) (by have := HS.out.sz; simp; omega) ?_; intro a7 c7 w4 ho7 hg7 hb7)
 have HSn := Lib.hid ((HS.out.ext (below_a1 _ _)).grow hg7 (HOgd.out.rowBase (Nat.le_refl _)))
 have HOD : Hid (Own w4 (w.heap.size + 2) 74 7 a7 2 c7 ([(kUri, strD nm), (kVersion, numD ver)].flatMap ptC)) := Lib.hid ho7
 clear HS ho7 hg7 hb7 HPgd HOgd
 have HS := HSn
 clear HSn
 obtain ⟨gl, hgl⟩ : ∃ gl, gl = w4.heap.size := ⟨_, rfl⟩
 obtain ⟨w5, hw5⟩ : ∃ w5, w5 = w4.alloc (.cells #[.int .i64 4, .bool false, .int .i64 0, .string { data := #[] }, .slice none 0 0, .slice none 0 0] 36) := ⟨_, rfl⟩
 have HL0 : Hid (LpS w P c gl a7 c7 [(kUri, strD nm), (kVersion, numD ver)] none 0 [] w5) := Lib.hid ⟨by rw [hw5]; exact HS.out.ext (below_a1 _ _), by rw [hw5]; exact HOD.out.ext (below_a1 _ _), by rw [hw5, hgl]; exact Blk.new rfl, Own.nil _ _ _ _, by simp [rowOf], by rw [hgl]; exact HS.out.sz, fun x hx => by cases hx⟩
 have hc10 : w5.cell? ⟨w.heap.size, 10, none⟩ = some (.slice c.a c.changes.length c.c) := HL0.out.pas.cblk.cell 10
 obtain ⟨ca, hca⟩ : ∃ q, q = c.a := ⟨_, rfl⟩
 obtain ⟨cn, hcn⟩ : ∃ q, q = c.changes.length := ⟨_, rfl⟩
 rw [← hca, ← hcn] at hc10
 rw [← hcn] at HCL
 rw [← hca] at HCR
 have HCN := Lib.hid hcn
 clear hca hcn HS HOD
 go_upto_region 11 with (fail)
 rw [← hgl, ← hw5]
 clear hw5 hgl
 go_wp2
 clear hc10
 go_loopw [49] (fun i wr => ∃ k : Nat, k ≤ cn ∧ i = .int .i64 k ∧ Hid (∃ la lc acc, acc.map VD.v = (c.changes.take k).map editW ∧ LpS w P c gl a7 c7 [(kUri, strD nm), (kVersion, numD ver)] la lc acc wr)) (fun i _ => cn - (intOf i).toNat)
 case atStart => exact ⟨0, Nat.zero_le _, rfl, Lib.hid ⟨none, 0, [], rfl, HL0.out⟩⟩
 case round =>
  obtain ⟨k, hk, rfl, hL⟩ := hrel
  obtain ⟨la, lc, acc, hac, hL⟩ := hL.out
  have HAC := Lib.hid hac
  have HL := Lib.hid hL
  clear hL hac HL0
  by_cases hlt : k < cn
  ·
   obtain ⟨x, hx⟩ := get_some (l := c.changes) (i := k) (by rw [← HCN.out]; exact hlt)
   have HXE := Lib.hid hx
   have HAL : Hid (acc.length + 1 ≤ 1048577) := Lib.hid (by have := congrArg List.length HAC.out; rw [List.length_map, List.length_map, List.length_take] at this; have := HCL.out; omega)
   obtain ⟨b, off, rfl, q0, q1, q2, q3, q4, q5⟩ := edit_at (HCR.out.ext HL.out.pas.below) hx
   clear hx
   have hi0 : (0 : Int) ≤ (k : Int) := by omega
   have hi1 : (k : Int) < (cn : Int) := by omega
   have hcl0 := HCL.out
   obtain ⟨gx, hgx⟩ : ∃ gx, gx = wr.heap.size := ⟨_, rfl⟩
   obtain ⟨Wc, hWc⟩ : ∃ Wc, Wc = wr.alloc (.cells #[.int .i64 x.fl, .int .i64 x.fu, .int .i64 x.tl, .int .i64 x.tu, .string ⟨x.text.toArray⟩, .bool x.whole] 82) := ⟨_, rfl⟩
   have HXB : Hid (Blk Wc gx #[.int .i64 x.fl, .int .i64 x.fu, .int .i64 x.tl, .int .i64 x.tu, .string ⟨x.text.toArray⟩, .bool x.whole] 82) := Lib.hid (by rw [hWc, hgx]; exact Blk.new rfl)
   have HLn := Lib.hid (HL.out.ext (show Below wr.heap.size wr Wc by rw [hWc]; exact below_a1 _ _))
   clear HL
   have HL := HLn
   clear HLn
   go_upto_region 14 with (fail)
   rw [← hgx, ← hWc]
   clear hWc hgx q0 q1 q2 q3 q4 q5 hcl0 hi0 hi1
   obtain ⟨e0, e1, e2, e3, e4, e5⟩ := HXB.out.sixT
   go_wp2_with fail
   refine (str_any x.text Wc).mono ?_
   rintro e Wn ⟨rfl, hb⟩
   have HLn := Lib.hid (HL.out.ext hb)
   have HXBn := Lib.hid (HXB.out.ext hb)
   clear HXB
   have HXB := HXBn
   clear HXBn
   clear hb HL
   have HL := HLn
   clear HLn
   obtain ⟨Wc, rfl⟩ : ∃ Wc, Wc = Wn := ⟨_, rfl⟩
   clear e0 e1 e2 e3 e4 e5
   obtain ⟨Wb, hWb⟩ : ∃ Wb, Wb = Wc := ⟨_, rfl⟩
   have HLb : Hid (LpS w P c gl a7 c7 [(kUri, strD nm), (kVersion, numD ver)] la lc acc Wb) := Lib.hid (by rw [hWb]; exact HL.out)
   have HSI : Hid (Sinc Wb Wc) := Lib.hid (by rw [hWb]; exact Below.refl _ _)
   obtain ⟨ga, hga⟩ : ∃ ga, ga = Wc.heap.size := ⟨_, rfl⟩
   have hsz := HL.out.pas.sz
   obtain ⟨Wn, hWn⟩ : ∃ Wn, Wn = Wc.alloc (.cells ([(kText, strD x.text)].flatMap ptC).toArray 74) := ⟨_, rfl⟩
   have hb : Below Wc.heap.size Wc Wn := by rw [hWn]; exact below_a1 _ _
   have HPga : Hid (PtsAt Wn (fun g => (P g ∧ g ≠ w.heap.size + 1) ∧ g ≠ gl ∧ rowOf la lc ≠ some g) (some ⟨ga, 0, none⟩) [(kText, strD x.text)]) := Lib.hid ⟨by rw [hWn, hga]; exact row_blk (Blk.new rfl) (flat_length ptC 7 ptC_len _), fun p hp => by
    simp only [List.mem_cons, List.mem_nil_iff, or_false] at hp
    rcases hp with rfl
    exact .leaf⟩
   have HOga : Hid (Own Wn (w.heap.size + 2) 74 7 (some ⟨ga, 0, none⟩) [(kText, strD x.text)].length [(kText, strD x.text)].length ([(kText, strD x.text)].flatMap ptC)) := Lib.hid (by rw [hWn, hga]; exact own_blk (cs := ([(kText, strD x.text)].flatMap ptC).toArray) (Blk.new rfl) (by omega) (by rw [List.size_toArray]; exact flat_length ptC 7 ptC_len _) (by simp [maxLen]))
   clear hsz
   have HLn := Lib.hid (HL.out.ext hb)
   have HXBn := Lib.hid (HXB.out.ext hb)
   clear HXB
   have HXB := HXBn
   clear HXBn
   have HSIn := Lib.hid (HSI.out.ext hb)
   clear HSI
   have HSI := HSIn
   clear HSIn
   clear hb HL
   have HL := HLn
   clear HLn
   simp only [List.flatMap_cons, List.flatMap_nil] at hWn
   try simp only [ptC_str] at hWn
   try simp only [ptC_num] at hWn
   try simp only [ptC_of] at hWn
   try simp only [List.cons_append, List.nil_append] at hWn
   simp only [List.append_nil, kText] at hWn
   have HGA : Hid (Wb.heap.size ≤ ga) := Lib.hid (by rw [hWb, hga]; exact Nat.le_refl _)
   clear hWb
   go_upto_region 15 with (fail)
   rw [← hWn, ← hga]
   clear hWn hga
   obtain ⟨Wc, rfl⟩ : ∃ Wc, Wc = Wn := ⟨_, rfl⟩
   obtain ⟨e0, e1, e2, e3, e4, e5⟩ := HXB.out.sixT
   obtain ⟨wh, hwh⟩ : ∃ q, q = x.whole := ⟨_, rfl⟩
   rw [← hwh] at e5
   have HWH := Lib.hid hwh
   clear hwh
   cases wh with
   | true =>
    clear e0 e1 e2 e3 e4
    go_upto_region 17 with (fail)
    obtain ⟨Wn, hWn⟩ : ∃ Wn, Wn = Wc.drew := ⟨_, rfl⟩
    have hb : Below Wc.heap.size Wc Wn := by rw [hWn]; exact (Below.refl _ _).drew
    have HLn := Lib.hid (HL.out.ext hb)
    have HPgan := Lib.hid (HPga.out.ext hb)
    clear HPga
    have HPga := HPgan
    clear HPgan
    clear hb HL
    have HL := HLn
    clear HLn
    refine wp_region_held_drew (S := (fun _ => True)) (by kernel_rfl) ?_ (fun hHeld => ?_)
    ·
     trivial
    rw [← hWn]
    clear hWn
    obtain ⟨Wc, rfl⟩ : ∃ Wc, Wc = Wn := ⟨_, rfl⟩
    refine wpAnyH_take (i := 0) (oi := ⟨some 78, _, _, _, _, _⟩) (v := ?_) rfl (by kernel_rfl) (by kernel_rfl) (by kernel_rfl) (fun _ _ _ h => h) (Or.inl ⟨by rfl, ?_⟩) (by assumption) ?_; rotate_left; focus (intro w hSw; (try dsimp only at hSw); first | (go_simp; done) | (go_simp; with_reducible rfl))
    try simp only [Act.put, List.setIfInBounds_toArray, List.set_cons_succ, List.set_cons_zero]
    refine wpAnyH_take (i := 2) (oi := ⟨some 80, _, _, _, _, _⟩) (v := ?_) rfl (by kernel_rfl) (by kernel_rfl) (by kernel_rfl) (fun _ _ _ h => h) (Or.inl ⟨by rfl, ?_⟩) (by assumption) ?_; rotate_left; focus (intro w hSw; (try dsimp only at hSw); first | (go_simp; done) | (go_simp; with_reducible rfl))
    try simp only [Act.put, List.setIfInBounds_toArray, List.set_cons_succ, List.set_cons_zero]
    refine wpAnyH_ready (rs := [1, 3]) (by kernel_rfl) (by simp) ?_
    refine AllReadyH.cons (i := 1) (o := ⟨some 79, _, _, _, _, _⟩) rfl (fun K hK => ?_) ?_
    ·
     have b4 := HL.out.lb.cell 4
     simp only [List.getElem?_toArray, List.getElem?_cons_zero, List.getElem?_cons_succ] at b4
     go_simp
     clear b4
     refine hK.out _ _ ?_ (fun hHeld => ?_)
     ·
      trivial
     try simp only [Act.put, List.setIfInBounds_toArray, List.set_cons_succ, List.set_cons_zero]
     refine wpAnyH_ready (rs := [3]) (by kernel_rfl) (by simp) ?_
     refine AllReadyH.cons (i := 3) (o := ⟨some 81, _, _, _, _, _⟩) rfl (fun K hK => ?_) ?_
     ·
      go_simp
      have hR := record_any (fun g => (P g ∧ g ≠ w.heap.size + 1) ∧ g ≠ gl ∧ rowOf la lc ≠ some g) (some ⟨ga, 0, none⟩) 1 [(kText, strD x.text)] Wc (HL.out.px HP.out) HPga.out (by simp)
      simp only [List.length_cons, List.length_nil, Nat.zero_add, Nat.reduceAdd] at hR
      refine hR.mono ?_
      clear hR
      rintro e Wn ⟨dx, rfl, hvdx, hddx, hb⟩
      have HVdx := Lib.hid hvdx
      have HDdx := Lib.hid hddx
      clear hvdx hddx
      have HLn := Lib.hid (HL.out.ext hb)
      have HPgan := Lib.hid (HPga.out.ext hb)
      clear HPga
      have HPga := HPgan
      clear HPgan
      clear hb HL
      have HL := HLn
      clear HLn
      obtain ⟨Wc, rfl⟩ : ∃ Wc, Wc = Wn := ⟨_, rfl⟩
      refine hK.out _ _ ?_ (fun hHeld => ?_)
      ·
       trivial
      try simp only [Act.put, List.setIfInBounds_toArray, List.set_cons_succ, List.set_cons_zero]
      refine wpAnyH_ready (rs := [4]) (by kernel_rfl) (by simp) ?_
      refine AllReadyH.cons (i := 4) (o := ⟨some 82, _, _, _, _, _⟩) rfl (fun K hK => ?_) ?_
      ·
       obtain ⟨gn, hgn⟩ : ∃ gn, gn = Wc.heap.size := ⟨_, rfl⟩
       obtain ⟨Wn, hWn⟩ : ∃ Wn, Wn = Wc.alloc (.cells #[.int .i64 dx.sort, .bool dx.on, .int .i64 dx.n, .string ⟨dx.text.toArray⟩, .slice dx.a dx.list.length dx.c, .slice dx.ka dx.keys.length dx.kc] 36) := ⟨_, rfl⟩
       have hb : Below Wc.heap.size Wc Wn := by rw [hWn]; exact below_a1 _ _
       have HNX : Hid (Blk Wn gn #[.int .i64 dx.sort, .bool dx.on, .int .i64 dx.n, .string ⟨dx.text.toArray⟩, .slice dx.a dx.list.length dx.c, .slice dx.ka dx.keys.length dx.kc] 36) := Lib.hid (by rw [hWn, hgn]; exact Blk.new rfl)
       have HLn := Lib.hid (HL.out.ext hb)
       have HDdxn := Lib.hid (HDdx.out.ext hb)
       clear HDdx
       have HDdx := HDdxn
       clear HDdxn
       clear hb HL
       have HL := HLn
       clear HLn
       go_simp
       rw [← hWn, ← hgn]
       clear hWn hgn
       obtain ⟨Wc, rfl⟩ : ∃ Wc, Wc = Wn := ⟨_, rfl⟩
       refine hK.out _ _ ?_ (fun hHeld => ?_)
       ·
        trivial
       try simp only [Act.put, List.setIfInBounds_toArray, List.set_cons_succ, List.set_cons_zero]
       refine wpAnyH_ready (rs := [5]) (by kernel_rfl) (by simp) ?_
       refine AllReadyH.cons (i := 5) (o := ⟨some 83, _, _, _, _, _⟩) rfl (fun K hK => ?_) ?_
       ·
        refine step_append_Own (act := ⟨_, []⟩) rfl (.tmp 79) (.tmp 82) 34 rfl (w.heap.size + 2) 36 _ 6 88 Tryz.underlying34 Tryz.infoVal rfl (by decide) la acc.length lc _ (by simp [go_sem]) HL.out.lo (some ⟨gn, 0, none⟩) 1 1 dx.cells (by simp [go_sem]) (row_blk (by rw [val_arr]; exact HNX.out) dx.len) (by rw [val_list]; intro u hu; simp at hu; rcases hu with rfl | rfl | rfl | rfl | rfl | rfl <;> rfl) (by have := HAL.out; unfold maxLen; omega) (by have := HAL.out; omega) HL.out.pas.sz ?_
        intro a5 c5 w5 ho5 hg5 hb5
        simp only [Act.put, List.setIfInBounds_toArray, List.set_cons_succ, List.set_cons_zero]
        have HM := Lib.hid (HL.out.more HDdx.out ho5 hg5 hb5)
        have HLB := Lib.hid (HL.out.lb.grown hg5 (fun e => HL.out.lne e.symm))
        clear ho5 hg5 hb5 HL
        refine hK.out _ _ ?_ (fun hHeld => ?_)
        ·
         trivial
        try simp only [Act.put, List.setIfInBounds_toArray, List.set_cons_succ, List.set_cons_zero]
        refine wpAnyH_take (i := 6) (oi := ⟨some 84, _, _, _, _, _⟩) (v := ?_) rfl (by kernel_rfl) (by kernel_rfl) (by kernel_rfl) (fun _ _ _ h => h) (Or.inl ⟨by rfl, ?_⟩) (by assumption) ?_; rotate_left; focus (intro w hSw; (try dsimp only at hSw); first | (go_simp; done) | (go_simp; with_reducible rfl))
        try simp only [Act.put, List.setIfInBounds_toArray, List.set_cons_succ, List.set_cons_zero]
        refine wpAnyH_ready (rs := [7]) (by kernel_rfl) (by simp) ?_
        refine AllReadyH.cons (i := 7) (o := ⟨none, _, _, _, _, _⟩) rfl (fun K hK => ?_) ?_
        ·
         have b4 := HLB.out.cell 4
         have m4 := HLB.out.free 4
         simp only [List.getElem?_toArray, List.getElem?_cons_zero, List.getElem?_cons_succ] at b4
         go_simp
         refine hK.out _ _ ?_ (fun hHeld => ?_)
         ·
          trivial
         try simp only [Act.put, List.setIfInBounds_toArray, List.set_cons_succ, List.set_cons_zero]
         refine wpAnyH_done (by kernel_rfl) ?_ _
         clear hHeld
         have hcl := HCL.out
         go_wp2
         go_roundw
         case rel => exact ⟨k + 1, by omega, by go_num, Lib.hid ⟨a5, c5, acc ++ [dx], by rw [List.map_append, take_snoc1 HXE.out, List.map_append, HAC.out]; show _ ++ [dx.v] = _ ++ [editW x]; rw [HVdx.out]; show _ = _ ++ [editW x]; unfold editW; rw [← HWH.out]; rfl, HM.out⟩⟩
         case measure => simp [intOf]; omega
        exact AllReadyH.nil
       exact AllReadyH.nil
      exact AllReadyH.nil
     exact AllReadyH.nil
    refine AllReadyH.cons (i := 3) (o := ⟨some 81, _, _, _, _, _⟩) rfl (fun K hK => ?_) ?_
    ·
     go_simp
     have hR := record_any (fun g => (P g ∧ g ≠ w.heap.size + 1) ∧ g ≠ gl ∧ rowOf la lc ≠ some g) (some ⟨ga, 0, none⟩) 1 [(kText, strD x.text)] Wc (HL.out.px HP.out) HPga.out (by simp)
     simp only [List.length_cons, List.length_nil, Nat.zero_add, Nat.reduceAdd] at hR
     refine hR.mono ?_
     clear hR
     rintro e Wn ⟨dx, rfl, hvdx, hddx, hb⟩
     have HVdx := Lib.hid hvdx
     have HDdx := Lib.hid hddx
     clear hvdx hddx
     have HLn := Lib.hid (HL.out.ext hb)
     have HPgan := Lib.hid (HPga.out.ext hb)
     clear HPga
     have HPga := HPgan
     clear HPgan
     clear hb HL
     have HL := HLn
     clear HLn
     obtain ⟨Wc, rfl⟩ : ∃ Wc, Wc = Wn := ⟨_, rfl⟩
     refine hK.out _ _ ?_ (fun hHeld => ?_)
     ·
      trivial
     try simp only [Act.put, List.setIfInBounds_toArray, List.set_cons_succ, List.set_cons_zero]
     refine wpAnyH_ready (rs := [1, 4]) (by kernel_rfl) (by simp) ?_
     refine AllReadyH.cons (i := 1) (o := ⟨some 79, _, _, _, _, _⟩) rfl (fun K hK => ?_) ?_
     ·
      have b4 := HL.out.lb.cell 4
      simp only [List.getElem?_toArray, List.getElem?_cons_zero, List.getElem?_cons_succ] at b4
      go_simp
      clear b4
      refine hK.out _ _ ?_ (fun hHeld => ?_)
      ·
       trivial
      try simp only [Act.put, List.setIfInBounds_toArray, List.set_cons_succ, List.set_cons_zero]
      refine wpAnyH_ready (rs := [4]) (by kernel_rfl) (by simp) ?_
      refine AllReadyH.cons (i := 4) (o := ⟨some 82, _, _, _, _, _⟩) rfl (fun K hK => ?_) ?_
      ·
       obtain ⟨gn, hgn⟩ : ∃ gn, gn = Wc.heap.size := ⟨_, rfl⟩
       obtain ⟨Wn, hWn⟩ : ∃ Wn, Wn = Wc.alloc (.cells #[.int .i64 dx.sort, .bool dx.on, .int .i64 dx.n, .string ⟨dx.text.toArray⟩, .slice dx.a dx.list.length dx.c, .slice dx.ka dx.keys.length dx.kc] 36) := ⟨_, rfl⟩
       have hb : Below Wc.heap.size Wc Wn := by rw [hWn]; exact below_a1 _ _
       have HNX : Hid (Blk Wn gn #[.int .i64 dx.sort, .bool dx.on, .int .i64 dx.n, .string ⟨dx.text.toArray⟩, .slice dx.a dx.list.length dx.c, .slice dx.ka dx.keys.length dx.kc] 36) := Lib.hid (by rw [hWn, hgn]; exact Blk.new rfl)
       have HLn := Lib.hid (HL.out.ext hb)
       have HDdxn := Lib.hid (HDdx.out.ext hb)
       clear HDdx
       have HDdx := HDdxn
       clear HDdxn
       clear hb HL
       have HL := HLn
       clear HLn
       go_simp
       rw [← hWn, ← hgn]
       clear hWn hgn
       obtain ⟨Wc, rfl⟩ : ∃ Wc, Wc = Wn := ⟨_, rfl⟩
       refine hK.out _ _ ?_ (fun hHeld => ?_)
       ·
        trivial
       try simp only [Act.put, List.setIfInBounds_toArray, List.set_cons_succ, List.set_cons_zero]
       refine wpAnyH_ready (rs := [5]) (by kernel_rfl) (by simp) ?_
       refine AllReadyH.cons (i := 5) (o := ⟨some 83, _, _, _, _, _⟩) rfl (fun K hK => ?_) ?_
       ·
        refine step_append_Own (act := ⟨_, []⟩) rfl (.tmp 79) (.tmp 82) 34 rfl (w.heap.size + 2) 36 _ 6 88 Tryz.underlying34 Tryz.infoVal rfl (by decide) la acc.length lc _ (by simp [go_sem]) HL.out.lo (some ⟨gn, 0, none⟩) 1 1 dx.cells (by simp [go_sem]) (row_blk (by rw [val_arr]; exact HNX.out) dx.len) (by rw [val_list]; intro u hu; simp at hu; rcases hu with rfl | rfl | rfl | rfl | rfl | rfl <;> rfl) (by have := HAL.out; unfold maxLen; omega) (by have := HAL.out; omega) HL.out.pas.sz ?_
        intro a5 c5 w5 ho5 hg5 hb5
        simp only [Act.put, List.setIfInBounds_toArray, List.set_cons_succ, List.set_cons_zero]
        have HM := Lib.hid (HL.out.more HDdx.out ho5 hg5 hb5)
        have HLB := Lib.hid (HL.out.lb.grown hg5 (fun e => HL.out.lne e.symm))
        clear ho5 hg5 hb5 HL
        refine hK.out _ _ ?_ (fun hHeld => ?_)
        ·
         trivial
        try simp only [Act.put, List.setIfInBounds_toArray, List.set_cons_succ, List.set_cons_zero]
        refine wpAnyH_take (i := 6) (oi := ⟨some 84, _, _, _, _, _⟩) (v := ?_) rfl (by kernel_rfl) (by kernel_rfl) (by kernel_rfl) (fun _ _ _ h => h) (Or.inl ⟨by rfl, ?_⟩) (by assumption) ?_; rotate_left; focus (intro w hSw; (try dsimp only at hSw); first | (go_simp; done) | (go_simp; with_reducible rfl))
        try simp only [Act.put, List.setIfInBounds_toArray, List.set_cons_succ, List.set_cons_zero]
        refine wpAnyH_ready (rs := [7]) (by kernel_rfl) (by simp) ?_
        refine AllReadyH.cons (i := 7) (o := ⟨none, _, _, _, _, _⟩) rfl (fun K hK => ?_) ?_
        ·
         have b4 := HLB.out.cell 4
         have m4 := HLB.out.free 4
         simp only [List.getElem?_toArray, List.getElem?_cons_zero, List.getElem?_cons_succ] at b4
         go_simp
         refine hK.out _ _ ?_ (fun hHeld => ?_)
         ·
          trivial
         try simp only [Act.put, List.setIfInBounds_toArray, List.set_cons_succ, List.set_cons_zero]
         refine wpAnyH_done (by kernel_rfl) ?_ _
         clear hHeld
         have hcl := HCL.out
         go_wp2
         go_roundw
         case rel => exact ⟨k + 1, by omega, by go_num, Lib.hid ⟨a5, c5, acc ++ [dx], by rw [List.map_append, take_snoc1 HXE.out, List.map_append, HAC.out]; show _ ++ [dx.v] = _ ++ [editW x]; rw [HVdx.out]; show _ = _ ++ [editW x]; unfold editW; rw [← HWH.out]; rfl, HM.out⟩⟩
         case measure => simp [intOf]; omega
        exact AllReadyH.nil
       exact AllReadyH.nil
      exact AllReadyH.nil
     refine AllReadyH.cons (i := 4) (o := ⟨some 82, _, _, _, _, _⟩) rfl (fun K hK => ?_) ?_
     ·
      obtain ⟨gn, hgn⟩ : ∃ gn, gn = Wc.heap.size := ⟨_, rfl⟩
      obtain ⟨Wn, hWn⟩ : ∃ Wn, Wn = Wc.alloc (.cells #[.int .i64 dx.sort, .bool dx.on, .int .i64 dx.n, .string ⟨dx.text.toArray⟩, .slice dx.a dx.list.length dx.c, .slice dx.ka dx.keys.length dx.kc] 36) := ⟨_, rfl⟩
      have hb : Below Wc.heap.size Wc Wn := by rw [hWn]; exact below_a1 _ _
      have HNX : Hid (Blk Wn gn #[.int .i64 dx.sort, .bool dx.on, .int .i64 dx.n, .string ⟨dx.text.toArray⟩, .slice dx.a dx.list.length dx.c, .slice dx.ka dx.keys.length dx.kc] 36) := Lib.hid (by rw [hWn, hgn]; exact Blk.new rfl)
      have HLn := Lib.hid (HL.out.ext hb)
      have HDdxn := Lib.hid (HDdx.out.ext hb)
      clear HDdx
      have HDdx := HDdxn
      clear HDdxn
      clear hb HL
      have HL := HLn
      clear HLn
      go_simp
      rw [← hWn, ← hgn]
      clear hWn hgn
      obtain ⟨Wc, rfl⟩ : ∃ Wc, Wc = Wn := ⟨_, rfl⟩
      refine hK.out _ _ ?_ (fun hHeld => ?_)
      ·
       trivial
      try simp only [Act.put, List.setIfInBounds_toArray, List.set_cons_succ, List.set_cons_zero]
      refine wpAnyH_ready (rs := [1]) (by kernel_rfl) (by simp) ?_
      refine AllReadyH.cons (i := 1) (o := ⟨some 79, _, _, _, _, _⟩) rfl (fun K hK => ?_) ?_
      ·
       have b4 := HL.out.lb.cell 4
       simp only [List.getElem?_toArray, List.getElem?_cons_zero, List.getElem?_cons_succ] at b4
       go_simp
       clear b4
       refine hK.out _ _ ?_ (fun hHeld => ?_)
       ·
        trivial
       try simp only [Act.put, List.setIfInBounds_toArray, List.set_cons_succ, List.set_cons_zero]
       refine wpAnyH_ready (rs := [5]) (by kernel_rfl) (by simp) ?_
       refine AllReadyH.cons (i := 5) (o := ⟨some 83, _, _, _, _, _⟩) rfl (fun K hK => ?_) ?_
       ·
        refine step_append_Own (act := ⟨_, []⟩) rfl (.tmp 79) (.tmp 82) 34 rfl (w.heap.size + 2) 36 _ 6 88 Tryz.underlying34 Tryz.infoVal rfl (by decide) la acc.length lc _ (by simp [go_sem]) HL.out.lo (some ⟨gn, 0, none⟩) 1 1 dx.cells (by simp [go_sem]) (row_blk (by rw [val_arr]; exact HNX.out) dx.len) (by rw [val_list]; intro u hu; simp at hu; rcases hu with rfl | rfl | rfl | rfl | rfl | rfl <;> rfl) (by have := HAL.out; unfold maxLen; omega) (by have := HAL.out; omega) HL.out.pas.sz ?_
        intro a5 c5 w5 ho5 hg5 hb5
        simp only [Act.put, List.setIfInBounds_toArray, List.set_cons_succ, List.set_cons_zero]
        have HM := Lib.hid (HL.out.more HDdx.out ho5 hg5 hb5)
        have HLB := Lib.hid (HL.out.lb.grown hg5 (fun e => HL.out.lne e.symm))
        clear ho5 hg5 hb5 HL
        refine hK.out _ _ ?_ (fun hHeld => ?_)
        ·
         trivial
        try simp only [Act.put, List.setIfInBounds_toArray, List.set_cons_succ, List.set_cons_zero]
        refine wpAnyH_take (i := 6) (oi := ⟨some 84, _, _, _, _, _⟩) (v := ?_) rfl (by kernel_rfl) (by kernel_rfl) (by kernel_rfl) (fun _ _ _ h => h) (Or.inl ⟨by rfl, ?_⟩) (by assumption) ?_; rotate_left; focus (intro w hSw; (try dsimp only at hSw); first | (go_simp; done) | (go_simp; with_reducible rfl))
        try simp only [Act.put, List.setIfInBounds_toArray, List.set_cons_succ, List.set_cons_zero]
        refine wpAnyH_ready (rs := [7]) (by kernel_rfl) (by simp) ?_
        refine AllReadyH.cons (i := 7) (o := ⟨none, _, _, _, _, _⟩) rfl (fun K hK => ?_) ?_
        ·
         have b4 := HLB.out.cell 4
         have m4 := HLB.out.free 4
         simp only [List.getElem?_toArray, List.getElem?_cons_zero, List.getElem?_cons_succ] at b4
         go_simp
         refine hK.out _ _ ?_ (fun hHeld => ?_)
         ·
          trivial
         try simp only [Act.put, List.setIfInBounds_toArray, List.set_cons_succ, List.set_cons_zero]
         refine wpAnyH_done (by kernel_rfl) ?_ _
         clear hHeld
         have hcl := HCL.out
         go_wp2
         go_roundw
         case rel => exact ⟨k + 1, by omega, by go_num, Lib.hid ⟨a5, c5, acc ++ [dx], by rw [List.map_append, take_snoc1 HXE.out, List.map_append, HAC.out]; show _ ++ [dx.v] = _ ++ [editW x]; rw [HVdx.out]; show _ = _ ++ [editW x]; unfold editW; rw [← HWH.out]; rfl, HM.out⟩⟩
         case measure => simp [intOf]; omega
        exact AllReadyH.nil
       exact AllReadyH.nil
      exact AllReadyH.nil
     exact AllReadyH.nil
    exact AllReadyH.nil
   | false =>
    go_upto_region 16 with (fail)
    clear e0 e1 e2 e3 e4 e5
    obtain ⟨Wn, hWn⟩ : ∃ Wn, Wn = Wc.drew := ⟨_, rfl⟩
    have hb : Below Wc.heap.size Wc Wn := by rw [hWn]; exact (Below.refl _ _).drew
    have HLn := Lib.hid (HL.out.ext hb)
    have HXBn := Lib.hid (HXB.out.ext hb)
    clear HXB
    have HXB := HXBn
    clear HXBn
    have HPgan := Lib.hid (HPga.out.ext hb)
    clear HPga
    have HPga := HPgan
    clear HPgan
    have HOgan := Lib.hid (HOga.out.ext hb)
    clear HOga
    have HOga := HOgan
    clear HOgan
    have HSIn := Lib.hid (HSI.out.ext hb)
    clear HSI
    have HSI := HSIn
    clear HSIn
    clear hb HL
    have HL := HLn
    clear HLn
    refine wp_region_held_drew (S := (fun w' => Blk w' gx #[.int .i64 x.fl, .int .i64 x.fu, .int .i64 x.tl, .int .i64 x.tu, .string ⟨x.text.toArray⟩, .bool x.whole] 82)) (by kernel_rfl) ?_ (fun hHeld => ?_)
    ·
     rw [← hWn]
     exact HXB.out
    rw [← hWn] at hHeld ⊢
    clear hWn
    obtain ⟨Wc, rfl⟩ : ∃ Wc, Wc = Wn := ⟨_, rfl⟩
    refine wpAnyH_take (i := 0) (oi := ⟨some 62, _, _, _, _, _⟩) (v := ?_) rfl (by kernel_rfl) (by kernel_rfl) (by kernel_rfl) (fun _ _ _ h => h) (Or.inl ⟨by rfl, ?_⟩) (by assumption) ?_; rotate_left; focus (intro w hSw; (try dsimp only at hSw); first | (go_simp; done) | (go_simp; with_reducible rfl))
    try simp only [Act.put, List.setIfInBounds_toArray, List.set_cons_succ, List.set_cons_zero]
    refine wpAnyH_take (i := 1) (oi := ⟨some 63, _, _, _, _, _⟩) (v := ?_) rfl (by kernel_rfl) (by kernel_rfl) (by kernel_rfl) (fun _ _ _ h => h) (Or.inl ⟨by rfl, ?_⟩) (by assumption) ?_; rotate_left; focus (intro w hSw; (try dsimp only at hSw); first | (go_simp; done) | (go_simp; with_reducible rfl))
    try simp only [Act.put, List.setIfInBounds_toArray, List.set_cons_succ, List.set_cons_zero]
    refine wpAnyH_take (i := 2) (oi := ⟨some 64, _, _, _, _, _⟩) (v := ?_) rfl (by kernel_rfl) (by kernel_rfl) (by kernel_rfl) (fun _ _ _ h => h) (Or.inl ⟨by rfl, ?_⟩) (by assumption) ?_; rotate_left; focus (intro w hSw; (try dsimp only at hSw); first | (go_simp; done) | (go_simp; with_reducible rfl))
    try simp only [Act.put, List.setIfInBounds_toArray, List.set_cons_succ, List.set_cons_zero]
    refine wpAnyH_take (i := 3) (oi := ⟨some 65, _, _, _, _, _⟩) (v := ?_) rfl (by kernel_rfl) (by kernel_rfl) (by kernel_rfl) (fun _ _ _ h => h) (Or.inl ⟨by rfl, ?_⟩) (by assumption) ?_; rotate_left; focus (intro w hSw; (try dsimp only at hSw); obtain ⟨a0, a1, a2, a3, a4, a5⟩ := Blk.sixT hSw; first | (go_simp; done) | (go_simp; with_reducible rfl))
    try simp only [Act.put, List.setIfInBounds_toArray, List.set_cons_succ, List.set_cons_zero]
    refine wpAnyH_take (i := 6) (oi := ⟨some 68, _, _, _, _, _⟩) (v := ?_) rfl (by kernel_rfl) (by kernel_rfl) (by kernel_rfl) (fun _ _ _ h => h) (Or.inl ⟨by rfl, ?_⟩) (by assumption) ?_; rotate_left; focus (intro w hSw; (try dsimp only at hSw); first | (go_simp; done) | (go_simp; with_reducible rfl))
    try simp only [Act.put, List.setIfInBounds_toArray, List.set_cons_succ, List.set_cons_zero]
    refine wpAnyH_take (i := 7) (oi := ⟨some 69, _, _, _, _, _⟩) (v := ?_) rfl (by kernel_rfl) (by kernel_rfl) (by kernel_rfl) (fun _ _ _ h => h) (Or.inl ⟨by rfl, ?_⟩) (by assumption) ?_; rotate_left; focus (intro w hSw; (try dsimp only at hSw); first | (go_simp; done) | (go_simp; with_reducible rfl))
    try simp only [Act.put, List.setIfInBounds_toArray, List.set_cons_succ, List.set_cons_zero]
    refine wpAnyH_take (i := 8) (oi := ⟨some 70, _, _, _, _, _⟩) (v := ?_) rfl (by kernel_rfl) (by kernel_rfl) (by kernel_rfl) (fun _ _ _ h => h) (Or.inl ⟨by rfl, ?_⟩) (by assumption) ?_; rotate_left; focus (intro w hSw; (try dsimp only at hSw); obtain ⟨a0, a1, a2, a3, a4, a5⟩ := Blk.sixT hSw; first | (go_simp; done) | (go_simp; with_reducible rfl))
    try simp only [Act.put, List.setIfInBounds_toArray, List.set_cons_succ, List.set_cons_zero]
    refine wpAnyH_ready (rs := [4]) (by kernel_rfl) (by simp) ?_
    refine AllReadyH.cons (i := 4) (o := ⟨some 66, _, _, _, _, _⟩) rfl (fun K hK => ?_) ?_
    ·
     go_simp
     refine (at_any (fun g => ((P g ∧ g ≠ w.heap.size + 1) ∧ g ≠ gl ∧ rowOf la lc ≠ some g) ∧ g ≠ ga) x.fl x.fu Wc (fun g hg => ⟨HL.out.px HP.out g hg, by have h9 : ga < Wc.heap.size := (HOga.out.size (by simp) rfl).2; omega⟩)).mono ?_
     rintro e Wn ⟨dS, rfl, hvdS, hddS, hb⟩
     have HVdS := Lib.hid hvdS
     have HDdS := Lib.hid hddS
     clear hvdS hddS
     have HLn := Lib.hid (HL.out.ext hb)
     have HXBn := Lib.hid (HXB.out.ext hb)
     clear HXB
     have HXB := HXBn
     clear HXBn
     have HPgan := Lib.hid (HPga.out.ext hb)
     clear HPga
     have HPga := HPgan
     clear HPgan
     have HOgan := Lib.hid (HOga.out.ext hb)
     clear HOga
     have HOga := HOgan
     clear HOgan
     have HSIn := Lib.hid (HSI.out.ext hb)
     clear HSI
     have HSI := HSIn
     clear HSIn
     clear hb HL
     have HL := HLn
     clear HLn
     obtain ⟨Wc, rfl⟩ : ∃ Wc, Wc = Wn := ⟨_, rfl⟩
     refine hK.out _ _ ?_ (fun hHeld => ?_)
     ·
      exact HXB.out
     try simp only [Act.put, List.setIfInBounds_toArray, List.set_cons_succ, List.set_cons_zero]
     refine wpAnyH_take (i := 5) (oi := ⟨some 67, _, _, _, _, _⟩) (v := ?_) rfl (by kernel_rfl) (by kernel_rfl) (by kernel_rfl) (fun _ _ _ h => h) (Or.inl ⟨by rfl, ?_⟩) (by assumption) ?_; rotate_left; focus (intro w hSw; (try dsimp only at hSw); first | (go_simp; done) | (go_simp; with_reducible rfl))
     try simp only [Act.put, List.setIfInBounds_toArray, List.set_cons_succ, List.set_cons_zero]
     refine wpAnyH_ready (rs := [9]) (by kernel_rfl) (by simp) ?_
     refine AllReadyH.cons (i := 9) (o := ⟨some 71, _, _, _, _, _⟩) rfl (fun K hK => ?_) ?_
     ·
      go_simp
      refine (at_any (fun g => ((P g ∧ g ≠ w.heap.size + 1) ∧ g ≠ gl ∧ rowOf la lc ≠ some g) ∧ g ≠ ga) x.tl x.tu Wc (fun g hg => ⟨HL.out.px HP.out g hg, by have h9 : ga < Wc.heap.size := (HOga.out.size (by simp) rfl).2; omega⟩)).mono ?_
      rintro e Wn ⟨dE, rfl, hvdE, hddE, hb⟩
      have HVdE := Lib.hid hvdE
      have HDdE := Lib.hid hddE
      clear hvdE hddE
      have HLn := Lib.hid (HL.out.ext hb)
      have HXBn := Lib.hid (HXB.out.ext hb)
      clear HXB
      have HXB := HXBn
      clear HXBn
      have HPgan := Lib.hid (HPga.out.ext hb)
      clear HPga
      have HPga := HPgan
      clear HPgan
      have HOgan := Lib.hid (HOga.out.ext hb)
      clear HOga
      have HOga := HOgan
      clear HOgan
      have HSIn := Lib.hid (HSI.out.ext hb)
      clear HSI
      have HSI := HSIn
      clear HSIn
      have HDdSn := Lib.hid (HDdS.out.ext hb)
      clear HDdS
      have HDdS := HDdSn
      clear HDdSn
      clear hb HL
      have HL := HLn
      clear HLn
      obtain ⟨Wc, rfl⟩ : ∃ Wc, Wc = Wn := ⟨_, rfl⟩
      refine hK.out _ _ ?_ (fun hHeld => ?_)
      ·
       exact HXB.out
      try simp only [Act.put, List.setIfInBounds_toArray, List.set_cons_succ, List.set_cons_zero]
      refine wpAnyH_take (i := 10) (oi := ⟨some 72, _, _, _, _, _⟩) (v := ?_) rfl (by kernel_rfl) (by kernel_rfl) (by kernel_rfl) (fun _ _ _ h => h) (Or.inl ⟨by rfl, ?_⟩) (by assumption) ?_; rotate_left; focus (intro w hSw; (try dsimp only at hSw); first | (go_simp; done) | (go_simp; with_reducible rfl))
      try simp only [Act.put, List.setIfInBounds_toArray, List.set_cons_succ, List.set_cons_zero]
      refine wpAnyH_ready (rs := [11]) (by kernel_rfl) (by simp) ?_
      refine AllReadyH.cons (i := 11) (o := ⟨some 73, _, _, _, _, _⟩) rfl (fun K hK => ?_) ?_
      ·
       obtain ⟨gv, hgv⟩ : ∃ gv, gv = Wc.heap.size := ⟨_, rfl⟩
       have hsz := HL.out.pas.sz
       obtain ⟨Wn, hWn⟩ : ∃ Wn, Wn = Wc.alloc (.cells ([(kStart, dS), (kEnd, dE)].flatMap ptC).toArray 74) := ⟨_, rfl⟩
       have hb : Below Wc.heap.size Wc Wn := by rw [hWn]; exact below_a1 _ _
       have HPgv : Hid (PtsAt Wn (fun g => ((P g ∧ g ≠ w.heap.size + 1) ∧ g ≠ gl ∧ rowOf la lc ≠ some g) ∧ g ≠ ga) (some ⟨gv, 0, none⟩) [(kStart, dS), (kEnd, dE)]) := Lib.hid ⟨by rw [hWn, hgv]; exact row_blk (Blk.new rfl) (flat_length ptC 7 ptC_len _), fun p hp => by
        simp only [List.mem_cons, List.mem_nil_iff, or_false] at hp
        rcases hp with rfl | rfl
        ·
         exact HDdS.out.ext hb
        ·
         exact HDdE.out.ext hb⟩
       have HOgv : Hid (Own Wn (w.heap.size + 2) 74 7 (some ⟨gv, 0, none⟩) [(kStart, dS), (kEnd, dE)].length [(kStart, dS), (kEnd, dE)].length ([(kStart, dS), (kEnd, dE)].flatMap ptC)) := Lib.hid (by rw [hWn, hgv]; exact own_blk (cs := ([(kStart, dS), (kEnd, dE)].flatMap ptC).toArray) (Blk.new rfl) (by omega) (by rw [List.size_toArray]; exact flat_length ptC 7 ptC_len _) (by simp [maxLen]))
       clear hsz
       have HLn := Lib.hid (HL.out.ext hb)
       have HXBn := Lib.hid (HXB.out.ext hb)
       clear HXB
       have HXB := HXBn
       clear HXBn
       have HPgan := Lib.hid (HPga.out.ext hb)
       clear HPga
       have HPga := HPgan
       clear HPgan
       have HOgan := Lib.hid (HOga.out.ext hb)
       clear HOga
       have HOga := HOgan
       clear HOgan
       have HSIn := Lib.hid (HSI.out.ext hb)
       clear HSI
       have HSI := HSIn
       clear HSIn
       clear hb HL
       have HL := HLn
       clear HLn
       simp only [List.flatMap_cons, List.flatMap_nil] at hWn
       try simp only [ptC_str] at hWn
       try simp only [ptC_num] at hWn
       try simp only [ptC_of] at hWn
       try simp only [List.cons_append, List.nil_append] at hWn
       simp only [List.append_nil, kStart, kEnd] at hWn
       go_simp
       rw [← hWn, ← hgv]
       clear hWn hgv
       obtain ⟨Wc, rfl⟩ : ∃ Wc, Wc = Wn := ⟨_, rfl⟩
       refine hK.out _ _ ?_ (fun hHeld => ?_)
       ·
        exact HXB.out
       try simp only [Act.put, List.setIfInBounds_toArray, List.set_cons_succ, List.set_cons_zero]
       refine wpAnyH_ready (rs := [12]) (by kernel_rfl) (by simp) ?_
       refine AllReadyH.cons (i := 12) (o := ⟨some 74, _, _, _, _, _⟩) rfl (fun K hK => ?_) ?_
       ·
        go_simp
        have hR := record_any (fun g => ((P g ∧ g ≠ w.heap.size + 1) ∧ g ≠ gl ∧ rowOf la lc ≠ some g) ∧ g ≠ ga) (some ⟨gv, 0, none⟩) 2 [(kStart, dS), (kEnd, dE)] Wc (fun g hg => ⟨HL.out.px HP.out g hg, by have h9 : ga < Wc.heap.size := (HOga.out.size (by simp) rfl).2; omega⟩) HPgv.out (by simp)
        simp only [List.length_cons, List.length_nil, Nat.zero_add, Nat.reduceAdd] at hR
        refine hR.mono ?_
        clear hR
        rintro e Wn ⟨dR, rfl, hvdR, hddR, hb⟩
        have HVdR := Lib.hid hvdR
        have HDdR := Lib.hid hddR
        clear hvdR hddR
        have HLn := Lib.hid (HL.out.ext hb)
        have HXBn := Lib.hid (HXB.out.ext hb)
        clear HXB
        have HXB := HXBn
        clear HXBn
        have HPgan := Lib.hid (HPga.out.ext hb)
        clear HPga
        have HPga := HPgan
        clear HPgan
        have HOgan := Lib.hid (HOga.out.ext hb)
        clear HOga
        have HOga := HOgan
        clear HOgan
        have HSIn := Lib.hid (HSI.out.ext hb)
        clear HSI
        have HSI := HSIn
        clear HSIn
        clear hb HL
        have HL := HLn
        clear HLn
        obtain ⟨Wc, rfl⟩ : ∃ Wc, Wc = Wn := ⟨_, rfl⟩
        refine hK.out _ _ ?_ (fun hHeld => ?_)
        ·
         exact HXB.out
        try simp only [Act.put, List.setIfInBounds_toArray, List.set_cons_succ, List.set_cons_zero]
        refine wpAnyH_take (i := 13) (oi := ⟨some 75, _, _, _, _, _⟩) (v := ?_) rfl (by kernel_rfl) (by kernel_rfl) (by kernel_rfl) (fun _ _ _ h => h) (Or.inl ⟨by rfl, ?_⟩) (by assumption) ?_; rotate_left; focus (intro w hSw; (try dsimp only at hSw); first | (go_simp; done) | (go_simp; with_reducible rfl))
        try simp only [Act.put, List.setIfInBounds_toArray, List.set_cons_succ, List.set_cons_zero]
        refine wpAnyH_ready (rs := [14]) (by kernel_rfl) (by simp) ?_
        refine AllReadyH.cons (i := 14) (o := ⟨some 76, _, _, _, _, _⟩) rfl (fun K hK => ?_) ?_
        ·
         obtain ⟨gw, hgw⟩ : ∃ gw, gw = Wc.heap.size := ⟨_, rfl⟩
         have hsz := HL.out.pas.sz
         obtain ⟨Wn, hWn⟩ : ∃ Wn, Wn = Wc.alloc (.cells ([(kRange, dR)].flatMap ptC).toArray 74) := ⟨_, rfl⟩
         have hb : Below Wc.heap.size Wc Wn := by rw [hWn]; exact below_a1 _ _
         have HPgw : Hid (PtsAt Wn (fun g => ((P g ∧ g ≠ w.heap.size + 1) ∧ g ≠ gl ∧ rowOf la lc ≠ some g) ∧ g ≠ ga) (some ⟨gw, 0, none⟩) [(kRange, dR)]) := Lib.hid ⟨by rw [hWn, hgw]; exact row_blk (Blk.new rfl) (flat_length ptC 7 ptC_len _), fun p hp => by
          simp only [List.mem_cons, List.mem_nil_iff, or_false] at hp
          rcases hp with rfl
          exact HDdR.out.ext hb⟩
         have HOgw : Hid (Own Wn (w.heap.size + 2) 74 7 (some ⟨gw, 0, none⟩) [(kRange, dR)].length [(kRange, dR)].length ([(kRange, dR)].flatMap ptC)) := Lib.hid (by rw [hWn, hgw]; exact own_blk (cs := ([(kRange, dR)].flatMap ptC).toArray) (Blk.new rfl) (by omega) (by rw [List.size_toArray]; exact flat_length ptC 7 ptC_len _) (by simp [maxLen]))
         clear hsz
         have HLn := Lib.hid (HL.out.ext hb)
         have HXBn := Lib.hid (HXB.out.ext hb)
         clear HXB
         have HXB := HXBn
         clear HXBn
         have HPgan := Lib.hid (HPga.out.ext hb)
         clear HPga
         have HPga := HPgan
         clear HPgan
         have HOgan := Lib.hid (HOga.out.ext hb)
         clear HOga
         have HOga := HOgan
         clear HOgan
         have HSIn := Lib.hid (HSI.out.ext hb)
         clear HSI
         have HSI := HSIn
         clear HSIn
         have HDdRn := Lib.hid (HDdR.out.ext hb)
         clear HDdR
         have HDdR := HDdRn
         clear HDdRn
         clear hb HL
         have HL := HLn
         clear HLn
         simp only [List.flatMap_cons, List.flatMap_nil] at hWn
         try simp only [ptC_str] at hWn
         try simp only [ptC_num] at hWn
         try simp only [ptC_of] at hWn
         try simp only [List.cons_append, List.nil_append] at hWn
         simp only [List.append_nil, kRange] at hWn
         go_simp
         rw [← hWn, ← hgw]
         clear hWn hgw
         obtain ⟨Wc, rfl⟩ : ∃ Wc, Wc = Wn := ⟨_, rfl⟩
         refine hK.out _ _ ?_ (fun hHeld => ?_)
         ·
          exact HXB.out
         try simp only [Act.put, List.setIfInBounds_toArray, List.set_cons_succ, List.set_cons_zero]
         refine wpAnyH_ready (rs := [15]) (by kernel_rfl) (by simp) ?_
         refine AllReadyH.cons (i := 15) (o := ⟨some 77, _, _, _, _, _⟩) rfl (fun K hK => ?_) ?_
         ·
          refine step_append_Own (act := ⟨_, []⟩) rfl (.tmp 62) (.tmp 76) 75 rfl (w.heap.size + 2) 74 _ 7 104 Tryz.underlying75 Tryz.infoPart rfl (by decide) (some ⟨ga, 0, none⟩) 1 1 _ (by simp [go_sem]) HOga.out (some ⟨gw, 0, none⟩) 1 1 _ (by simp [go_sem]) HPgw.out.row ptC_one (by simp [maxLen]) (by simp) HL.out.pas.sz ?_
          intro a9 c9 w9 ho9 hg9 hb9
          simp only [Act.put, List.setIfInBounds_toArray, List.set_cons_succ, List.set_cons_zero]
          have HL9 := Lib.hid (HLb.out.ext (Below.grown HSI.out hg9 HSI.out.size (fun j hj => by have := HGA.out; simp [rowOf, blockOf] at hj; omega)))
          have HX9 := Lib.hid (HXB.out.grown hg9 (HOga.out.notBlk HXB.out (by decide)))
          have HD9 := Lib.hid ((HDdR.out.congr fun g h1 h2 => hg9.block g h2 (fun e => h1.2 (by simp [rowOf, blockOf] at e; exact e))).mono fun g h1 _ => h1.1)
          have HP9 : Hid (PtsAt w9 (fun g => (P g ∧ g ≠ w.heap.size + 1) ∧ g ≠ gl ∧ rowOf la lc ≠ some g) a9 [(kText, strD x.text), (kRange, dR)]) := Lib.hid ⟨by have := ho9.row; simpa [List.flatMap_cons] using this, fun p hp => by
           simp only [List.mem_cons, List.mem_nil_iff, or_false] at hp
           rcases hp with rfl | rfl
           ·
            exact .leaf
           ·
            exact HD9.out⟩
          clear ho9 hg9 hb9 HL HXB HDdR HD9 HOga HPga HPgw HSI HLb
          have HL := HL9
          have HXB := HX9
          clear HL9 HX9
          obtain ⟨Wc, rfl⟩ : ∃ Wc, Wc = w9 := ⟨_, rfl⟩
          refine hK.out _ _ ?_ (fun hHeld => ?_)
          ·
           exact HXB.out
          try simp only [Act.put, List.setIfInBounds_toArray, List.set_cons_succ, List.set_cons_zero]
          refine wpAnyH_take (i := 16) (oi := ⟨some 8, _, _, _, _, _⟩) (v := ?_) rfl (by kernel_rfl) (by kernel_rfl) (by kernel_rfl) (fun _ _ _ h => h) (Or.inl ⟨by rfl, ?_⟩) (by assumption) ?_; rotate_left; focus (intro w hSw; (try dsimp only at hSw); first | (go_simp; done) | (go_simp; with_reducible rfl))
          try simp only [Act.put, List.setIfInBounds_toArray, List.set_cons_succ, List.set_cons_zero]
          refine wpAnyH_done (by kernel_rfl) ?_ _
          clear hHeld HXB
          go_upto_region 17 with (fail)
          obtain ⟨Wn, hWn⟩ : ∃ Wn, Wn = Wc.drew := ⟨_, rfl⟩
          have hb : Below Wc.heap.size Wc Wn := by rw [hWn]; exact (Below.refl _ _).drew
          have HLn := Lib.hid (HL.out.ext hb)
          have HP9n := Lib.hid (HP9.out.ext hb)
          clear HP9
          have HP9 := HP9n
          clear HP9n
          clear hb HL
          have HL := HLn
          clear HLn
          refine wp_region_held_drew (S := (fun _ => True)) (by kernel_rfl) ?_ (fun hHeld => ?_)
          ·
           trivial
          rw [← hWn]
          clear hWn
          obtain ⟨Wc, rfl⟩ : ∃ Wc, Wc = Wn := ⟨_, rfl⟩
          refine wpAnyH_take (i := 0) (oi := ⟨some 78, _, _, _, _, _⟩) (v := ?_) rfl (by kernel_rfl) (by kernel_rfl) (by kernel_rfl) (fun _ _ _ h => h) (Or.inl ⟨by rfl, ?_⟩) (by assumption) ?_; rotate_left; focus (intro w hSw; (try dsimp only at hSw); first | (go_simp; done) | (go_simp; with_reducible rfl))
          try simp only [Act.put, List.setIfInBounds_toArray, List.set_cons_succ, List.set_cons_zero]
          refine wpAnyH_take (i := 2) (oi := ⟨some 80, _, _, _, _, _⟩) (v := ?_) rfl (by kernel_rfl) (by kernel_rfl) (by kernel_rfl) (fun _ _ _ h => h) (Or.inl ⟨by rfl, ?_⟩) (by assumption) ?_; rotate_left; focus (intro w hSw; (try dsimp only at hSw); first | (go_simp; done) | (go_simp; with_reducible rfl))
          try simp only [Act.put, List.setIfInBounds_toArray, List.set_cons_succ, List.set_cons_zero]
          refine wpAnyH_ready (rs := [1, 3]) (by kernel_rfl) (by simp) ?_
          refine AllReadyH.cons (i := 1) (o := ⟨some 79, _, _, _, _, _⟩) rfl (fun K hK => ?_) ?_
          ·
           have b4 := HL.out.lb.cell 4
           simp only [List.getElem?_toArray, List.getElem?_cons_zero, List.getElem?_cons_succ] at b4
           go_simp
           clear b4
           refine hK.out _ _ ?_ (fun hHeld => ?_)
           ·
            trivial
           try simp only [Act.put, List.setIfInBounds_toArray, List.set_cons_succ, List.set_cons_zero]
           refine wpAnyH_ready (rs := [3]) (by kernel_rfl) (by simp) ?_
           refine AllReadyH.cons (i := 3) (o := ⟨some 81, _, _, _, _, _⟩) rfl (fun K hK => ?_) ?_
           ·
            go_simp
            have hR := record_any (fun g => (P g ∧ g ≠ w.heap.size + 1) ∧ g ≠ gl ∧ rowOf la lc ≠ some g) a9 c9 [(kText, strD x.text), (kRange, dR)] Wc (HL.out.px HP.out) HP9.out (by simp)
            simp only [List.length_cons, List.length_nil, Nat.zero_add, Nat.reduceAdd] at hR
            refine hR.mono ?_
            clear hR
            rintro e Wn ⟨dx, rfl, hvdx, hddx, hb⟩
            have HVdx := Lib.hid hvdx
            have HDdx := Lib.hid hddx
            clear hvdx hddx
            have HLn := Lib.hid (HL.out.ext hb)
            have HP9n := Lib.hid (HP9.out.ext hb)
            clear HP9
            have HP9 := HP9n
            clear HP9n
            clear hb HL
            have HL := HLn
            clear HLn
            obtain ⟨Wc, rfl⟩ : ∃ Wc, Wc = Wn := ⟨_, rfl⟩
            refine hK.out _ _ ?_ (fun hHeld => ?_)
            ·
             trivial
            try simp only [Act.put, List.setIfInBounds_toArray, List.set_cons_succ, List.set_cons_zero]
            refine wpAnyH_ready (rs := [4]) (by kernel_rfl) (by simp) ?_
            refine AllReadyH.cons (i := 4) (o := ⟨some 82, _, _, _, _, _⟩) rfl (fun K hK => ?_) ?_
            ·
             obtain ⟨gn, hgn⟩ : ∃ gn, gn = Wc.heap.size := ⟨_, rfl⟩
             obtain ⟨Wn, hWn⟩ : ∃ Wn, Wn = Wc.alloc (.cells #[.int .i64 dx.sort, .bool dx.on, .int .i64 dx.n, .string ⟨dx.text.toArray⟩, .slice dx.a dx.list.length dx.c, .slice dx.ka dx.keys.length dx.kc] 36) := ⟨_, rfl⟩
             have hb : Below Wc.heap.size Wc Wn := by rw [hWn]; exact below_a1 _ _
             have HNX : Hid (Blk Wn gn #[.int .i64 dx.sort, .bool dx.on, .int .i64 dx.n, .string ⟨dx.text.toArray⟩, .slice dx.a dx.list.length dx.c, .slice dx.ka dx.keys.length dx.kc] 36) := Lib.hid (by rw [hWn, hgn]; exact Blk.new rfl)
             have HLn := Lib.hid (HL.out.ext hb)
             have HDdxn := Lib.hid (HDdx.out.ext hb)
             clear HDdx
             have HDdx := HDdxn
             clear HDdxn
             clear hb HL
             have HL := HLn
             clear HLn
             go_simp
             rw [← hWn, ← hgn]
             clear hWn hgn
             obtain ⟨Wc, rfl⟩ : ∃ Wc, Wc = Wn := ⟨_, rfl⟩
             refine hK.out _ _ ?_ (fun hHeld => ?_)
             ·
              trivial
             try simp only [Act.put, List.setIfInBounds_toArray, List.set_cons_succ, List.set_cons_zero]
             refine wpAnyH_ready (rs := [5]) (by kernel_rfl) (by simp) ?_
             refine AllReadyH.cons (i := 5) (o := ⟨some 83, _, _, _, _, _⟩) rfl (fun K hK => ?_) ?_
             ·
              refine step_append_Own (act := ⟨_, []⟩) rfl (.tmp 79) (.tmp 82) 34 rfl (w.heap.size + 2) 36 _ 6 88 Tryz.underlying34 Tryz.infoVal rfl (by decide) la acc.length lc _ (by simp [go_sem]) HL.out.lo (some ⟨gn, 0, none⟩) 1 1 dx.cells (by simp [go_sem]) (row_blk (by rw [val_arr]; exact HNX.out) dx.len) (by rw [val_list]; intro u hu; simp at hu; rcases hu with rfl | rfl | rfl | rfl | rfl | rfl <;> rfl) (by have := HAL.out; unfold maxLen; omega) (by have := HAL.out; omega) HL.out.pas.sz ?_
              intro a5 c5 w5 ho5 hg5 hb5
              simp only [Act.put, List.setIfInBounds_toArray, List.set_cons_succ, List.set_cons_zero]
              have HM := Lib.hid (HL.out.more HDdx.out ho5 hg5 hb5)
              have HLB := Lib.hid (HL.out.lb.grown hg5 (fun e => HL.out.lne e.symm))
              clear ho5 hg5 hb5 HL
              refine hK.out _ _ ?_ (fun hHeld => ?_)
              ·
               trivial
              try simp only [Act.put, List.setIfInBounds_toArray, List.set_cons_succ, List.set_cons_zero]
              refine wpAnyH_take (i := 6) (oi := ⟨some 84, _, _, _, _, _⟩) (v := ?_) rfl (by kernel_rfl) (by kernel_rfl) (by kernel_rfl) (fun _ _ _ h => h) (Or.inl ⟨by rfl, ?_⟩) (by assumption) ?_; rotate_left; focus (intro w hSw; (try dsimp only at hSw); first | (go_simp; done) | (go_simp; with_reducible rfl))
              try simp only [Act.put, List.setIfInBounds_toArray, List.set_cons_succ, List.set_cons_zero]
              refine wpAnyH_ready (rs := [7]) (by kernel_rfl) (by simp) ?_
              refine AllReadyH.cons (i := 7) (o := ⟨none, _, _, _, _, _⟩) rfl (fun K hK => ?_) ?_
              ·
               have b4 := HLB.out.cell 4
               have m4 := HLB.out.free 4
               simp only [List.getElem?_toArray, List.getElem?_cons_zero, List.getElem?_cons_succ] at b4
               go_simp
               refine hK.out _ _ ?_ (fun hHeld => ?_)
               ·
                trivial
               try simp only [Act.put, List.setIfInBounds_toArray, List.set_cons_succ, List.set_cons_zero]
               refine wpAnyH_done (by kernel_rfl) ?_ _
               clear hHeld
               have hcl := HCL.out
               go_wp2
               go_roundw
               case rel => exact ⟨k + 1, by omega, by go_num, Lib.hid ⟨a5, c5, acc ++ [dx], by rw [List.map_append, take_snoc1 HXE.out, List.map_append, HAC.out]; show _ ++ [dx.v] = _ ++ [editW x]; rw [HVdx.out]; show _ = _ ++ [editW x]; unfold editW; rw [← HWH.out]; show _ = _ ++ [recW [(kText, strW x.text), (kRange, _)]]; rw [← HVdS.out, ← HVdE.out]; exact congrArg (fun q => _ ++ [q]) (by show recW [(kText, strW x.text), (kRange, dR.v)] = _; rw [HVdR.out]; rfl), HM.out⟩⟩
               case measure => simp [intOf]; omega
              exact AllReadyH.nil
             exact AllReadyH.nil
            exact AllReadyH.nil
           exact AllReadyH.nil
          refine AllReadyH.cons (i := 3) (o := ⟨some 81, _, _, _, _, _⟩) rfl (fun K hK => ?_) ?_
          ·
           go_simp
           have hR := record_any (fun g => (P g ∧ g ≠ w.heap.size + 1) ∧ g ≠ gl ∧ rowOf la lc ≠ some g) a9 c9 [(kText, strD x.text), (kRange, dR)] Wc (HL.out.px HP.out) HP9.out (by simp)
           simp only [List.length_cons, List.length_nil, Nat.zero_add, Nat.reduceAdd] at hR
           refine hR.mono ?_
           clear hR
           rintro e Wn ⟨dx, rfl, hvdx, hddx, hb⟩
           have HVdx := Lib.hid hvdx
           have HDdx := Lib.hid hddx
           clear hvdx hddx
           have HLn := Lib.hid (HL.out.ext hb)
           have HP9n := Lib.hid (HP9.out.ext hb)
           clear HP9
           have HP9 := HP9n
           clear HP9n
           clear hb HL
           have HL := HLn
           clear HLn
           obtain ⟨Wc, rfl⟩ : ∃ Wc, Wc = Wn := ⟨_, rfl⟩
           refine hK.out _ _ ?_ (fun hHeld => ?_)
           ·
            trivial
           try simp only [Act.put, List.setIfInBounds_toArray, List.set_cons_succ, List.set_cons_zero]
           refine wpAnyH_ready (rs := [1, 4]) (by kernel_rfl) (by simp) ?_
           refine AllReadyH.cons (i := 1) (o := ⟨some 79, _, _, _, _, _⟩) rfl (fun K hK => ?_) ?_
           ·
            have b4 := HL.out.lb.cell 4
            simp only [List.getElem?_toArray, List.getElem?_cons_zero, List.getElem?_cons_succ] at b4
            go_simp
            clear b4
            refine hK.out _ _ ?_ (fun hHeld => ?_)
            ·
             trivial
            try simp only [Act.put, List.setIfInBounds_toArray, List.set_cons_succ, List.set_cons_zero]
            refine wpAnyH_ready (rs := [4]) (by kernel_rfl) (by simp) ?_
            refine AllReadyH.cons (i := 4) (o := ⟨some 82, _, _, _, _, _⟩) rfl (fun K hK => ?_) ?_
            ·
             obtain ⟨gn, hgn⟩ : ∃ gn, gn = Wc.heap.size := ⟨_, rfl⟩
             obtain ⟨Wn, hWn⟩ : ∃ Wn, Wn = Wc.alloc (.cells #[.int .i64 dx.sort, .bool dx.on, .int .i64 dx.n, .string ⟨dx.text.toArray⟩, .slice dx.a dx.list.length dx.c, .slice dx.ka dx.keys.length dx.kc] 36) := ⟨_, rfl⟩
             have hb : Below Wc.heap.size Wc Wn := by rw [hWn]; exact below_a1 _ _
             have HNX : Hid (Blk Wn gn #[.int .i64 dx.sort, .bool dx.on, .int .i64 dx.n, .string ⟨dx.text.toArray⟩, .slice dx.a dx.list.length dx.c, .slice dx.ka dx.keys.length dx.kc] 36) := Lib.hid (by rw [hWn, hgn]; exact Blk.new rfl)
             have HLn := Lib.hid (HL.out.ext hb)
             have HDdxn := Lib.hid (HDdx.out.ext hb)
             clear HDdx
             have HDdx := HDdxn
             clear HDdxn
             clear hb HL
             have HL := HLn
             clear HLn
             go_simp
             rw [← hWn, ← hgn]
             clear hWn hgn
             obtain ⟨Wc, rfl⟩ : ∃ Wc, Wc = Wn := ⟨_, rfl⟩
             refine hK.out _ _ ?_ (fun hHeld => ?_)
             ·
              trivial
             try simp only [Act.put, List.setIfInBounds_toArray, List.set_cons_succ, List.set_cons_zero]
             refine wpAnyH_ready (rs := [5]) (by kernel_rfl) (by simp) ?_
             refine AllReadyH.cons (i := 5) (o := ⟨some 83, _, _, _, _, _⟩) rfl (fun K hK => ?_) ?_
             ·
              refine step_append_Own (act := ⟨_, []⟩) rfl (.tmp 79) (.tmp 82) 34 rfl (w.heap.size + 2) 36 _ 6 88 Tryz.underlying34 Tryz.infoVal rfl (by decide) la acc.length lc _ (by simp [go_sem]) HL.out.lo (some ⟨gn, 0, none⟩) 1 1 dx.cells (by simp [go_sem]) (row_blk (by rw [val_arr]; exact HNX.out) dx.len) (by rw [val_list]; intro u hu; simp at hu; rcases hu with rfl | rfl | rfl | rfl | rfl | rfl <;> rfl) (by have := HAL.out; unfold maxLen; omega) (by have := HAL.out; omega) HL.out.pas.sz ?_
              intro a5 c5 w5 ho5 hg5 hb5
              simp only [Act.put, List.setIfInBounds_toArray, List.set_cons_succ, List.set_cons_zero]
              have HM := Lib.hid (HL.out.more HDdx.out ho5 hg5 hb5)
              have HLB := Lib.hid (HL.out.lb.grown hg5 (fun e => HL.out.lne e.symm))
              clear ho5 hg5 hb5 HL
              refine hK.out _ _ ?_ (fun hHeld => ?_)
              ·
               trivial
              try simp only [Act.put, List.setIfInBounds_toArray, List.set_cons_succ, List.set_cons_zero]
              refine wpAnyH_take (i := 6) (oi := ⟨some 84, _, _, _, _, _⟩) (v := ?_) rfl (by kernel_rfl) (by kernel_rfl) (by kernel_rfl) (fun _ _ _ h => h) (Or.inl ⟨by rfl, ?_⟩) (by assumption) ?_; rotate_left; focus (intro w hSw; (try dsimp only at hSw); first | (go_simp; done) | (go_simp; with_reducible rfl))
              try simp only [Act.put, List.setIfInBounds_toArray, List.set_cons_succ, List.set_cons_zero]
              refine wpAnyH_ready (rs := [7]) (by kernel_rfl) (by simp) ?_
              refine AllReadyH.cons (i := 7) (o := ⟨none, _, _, _, _, _⟩) rfl (fun K hK => ?_) ?_
              ·
               have b4 := HLB.out.cell 4
               have m4 := HLB.out.free 4
               simp only [List.getElem?_toArray, List.getElem?_cons_zero, List.getElem?_cons_succ] at b4
               go_simp
               refine hK.out _ _ ?_ (fun hHeld => ?_)
               ·
                trivial
               try simp only [Act.put, List.setIfInBounds_toArray, List.set_cons_succ, List.set_cons_zero]
               refine wpAnyH_done (by kernel_rfl) ?_ _
               clear hHeld
               have hcl := HCL.out
               go_wp2
               go_roundw
               case rel => exact ⟨k + 1, by omega, by go_num, Lib.hid ⟨a5, c5, acc ++ [dx], by rw [List.map_append, take_snoc1 HXE.out, List.map_append, HAC.out]; show _ ++ [dx.v] = _ ++ [editW x]; rw [HVdx.out]; show _ = _ ++ [editW x]; unfold editW; rw [← HWH.out]; show _ = _ ++ [recW [(kText, strW x.text), (kRange, _)]]; rw [← HVdS.out, ← HVdE.out]; exact congrArg (fun q => _ ++ [q]) (by show recW [(kText, strW x.text), (kRange, dR.v)] = _; rw [HVdR.out]; rfl), HM.out⟩⟩
               case measure => simp [intOf]; omega
              exact AllReadyH.nil
             exact AllReadyH.nil
            exact AllReadyH.nil
           refine AllReadyH.cons (i := 4) (o := ⟨some 82, _, _, _, _, _⟩) rfl (fun K hK => ?_) ?_
           ·
            obtain ⟨gn, hgn⟩ : ∃ gn, gn = Wc.heap.size := ⟨_, rfl⟩
            obtain ⟨Wn, hWn⟩ : ∃ Wn, Wn = Wc.alloc (.cells #[.int .i64 dx.sort, .bool dx.on, .int .i64 dx.n, .string ⟨dx.text.toArray⟩, .slice dx.a dx.list.length dx.c, .slice dx.ka dx.keys.length dx.kc] 36) := ⟨_, rfl⟩
            have hb : Below Wc.heap.size Wc Wn := by rw [hWn]; exact below_a1 _ _
            have HNX : Hid (Blk Wn gn #[.int .i64 dx.sort, .bool dx.on, .int .i64 dx.n, .string ⟨dx.text.toArray⟩, .slice dx.a dx.list.length dx.c, .slice dx.ka dx.keys.length dx.kc] 36) := Lib.hid (by rw [hWn, hgn]; exact Blk.new rfl)
            have HLn := Lib.hid (HL.out.ext hb)
            have HDdxn := Lib.hid (HDdx.out.ext hb)
            clear HDdx
            have HDdx := HDdxn
            clear HDdxn
            clear hb HL
            have HL := HLn
            clear HLn
            go_simp
            rw [← hWn, ← hgn]
            clear hWn hgn
            obtain ⟨Wc, rfl⟩ : ∃ Wc, Wc = Wn := ⟨_, rfl⟩
            refine hK.out _ _ ?_ (fun hHeld => ?_)
            ·
             trivial
            try simp only [Act.put, List.setIfInBounds_toArray, List.set_cons_succ, List.set_cons_zero]
            refine wpAnyH_ready (rs := [1]) (by kernel_rfl) (by simp) ?_
            refine AllReadyH.cons (i := 1) (o := ⟨some 79, _, _, _, _, _⟩) rfl (fun K hK => ?_) ?_
            ·
             have b4 := HL.out.lb.cell 4
             simp only [List.getElem?_toArray, List.getElem?_cons_zero, List.getElem?_cons_succ] at b4
             go_simp
             clear b4
             refine hK.out _ _ ?_ (fun hHeld => ?_)
             ·
              trivial
             try simp only [Act.put, List.setIfInBounds_toArray, List.set_cons_succ, List.set_cons_zero]
             refine wpAnyH_ready (rs := [5]) (by kernel_rfl) (by simp) ?_
             refine AllReadyH.cons (i := 5) (o := ⟨some 83, _, _, _, _, _⟩) rfl (fun K hK => ?_) ?_
             ·
              refine step_append_Own (act := ⟨_, []⟩) rfl (.tmp 79) (.tmp 82) 34 rfl (w.heap.size + 2) 36 _ 6 88 Tryz.underlying34 Tryz.infoVal rfl (by decide) la acc.length lc _ (by simp [go_sem]) HL.out.lo (some ⟨gn, 0, none⟩) 1 1 dx.cells (by simp [go_sem]) (row_blk (by rw [val_arr]; exact HNX.out) dx.len) (by rw [val_list]; intro u hu; simp at hu; rcases hu with rfl | rfl | rfl | rfl | rfl | rfl <;> rfl) (by have := HAL.out; unfold maxLen; omega) (by have := HAL.out; omega) HL.out.pas.sz ?_
              intro a5 c5 w5 ho5 hg5 hb5
              simp only [Act.put, List.setIfInBounds_toArray, List.set_cons_succ, List.set_cons_zero]
              have HM := Lib.hid (HL.out.more HDdx.out ho5 hg5 hb5)
              have HLB := Lib.hid (HL.out.lb.grown hg5 (fun e => HL.out.lne e.symm))
              clear ho5 hg5 hb5 HL
              refine hK.out _ _ ?_ (fun hHeld => ?_)
              ·
               trivial
              try simp only [Act.put, List.setIfInBounds_toArray, List.set_cons_succ, List.set_cons_zero]
              refine wpAnyH_take (i := 6) (oi := ⟨some 84, _, _, _, _, _⟩) (v := ?_) rfl (by kernel_rfl) (by kernel_rfl) (by kernel_rfl) (fun _ _ _ h => h) (Or.inl ⟨by rfl, ?_⟩) (by assumption) ?_; rotate_left; focus (intro w hSw; (try dsimp only at hSw); first | (go_simp; done) | (go_simp; with_reducible rfl))
              try simp only [Act.put, List.setIfInBounds_toArray, List.set_cons_succ, List.set_cons_zero]
              refine wpAnyH_ready (rs := [7]) (by kernel_rfl) (by simp) ?_
              refine AllReadyH.cons (i := 7) (o := ⟨none, _, _, _, _, _⟩) rfl (fun K hK => ?_) ?_
              ·
               have b4 := HLB.out.cell 4
               have m4 := HLB.out.free 4
               simp only [List.getElem?_toArray, List.getElem?_cons_zero, List.getElem?_cons_succ] at b4
               go_simp
               refine hK.out _ _ ?_ (fun hHeld => ?_)
               ·
                trivial
               try simp only [Act.put, List.setIfInBounds_toArray, List.set_cons_succ, List.set_cons_zero]
               refine wpAnyH_done (by kernel_rfl) ?_ _
               clear hHeld
               have hcl := HCL.out
               go_wp2
               go_roundw
               case rel => exact ⟨k + 1, by omega, by go_num, Lib.hid ⟨a5, c5, acc ++ [dx], by rw [List.map_append, take_snoc1 HXE.out, List.map_append, HAC.out]; show _ ++ [dx.v] = _ ++ [editW x]; rw [HVdx.out]; show _ = _ ++ [editW x]; unfold editW; rw [← HWH.out]; show _ = _ ++ [recW [(kText, strW x.text), (kRange, _)]]; rw [← HVdS.out, ← HVdE.out]; exact congrArg (fun q => _ ++ [q]) (by show recW [(kText, strW x.text), (kRange, dR.v)] = _; rw [HVdR.out]; rfl), HM.out⟩⟩
               case measure => simp [intOf]; omega
              exact AllReadyH.nil
             exact AllReadyH.nil
            exact AllReadyH.nil
           exact AllReadyH.nil
          exact AllReadyH.nil
         exact AllReadyH.nil
        exact AllReadyH.nil
       exact AllReadyH.nil
      exact AllReadyH.nil
     exact AllReadyH.nil
    exact AllReadyH.nil
  ·
   have hkc : k = cn := by omega
   have HKC : Hid (acc.map VD.v = c.changes.map editW) := Lib.hid (by rw [HAC.out, hkc, HCN.out, List.take_length])
   clear hkc HAC
   have HS := Lib.hid HL.out.pas
   have HPgd : Hid (PtsAt wr (fun g => P g ∧ g ≠ w.heap.size + 1) a7 [(kUri, strD nm), (kVersion, numD ver)]) := Lib.hid ⟨HL.out.od.row, fun p hp => by
    simp only [List.mem_cons, List.mem_nil_iff, or_false] at hp
    rcases hp with rfl | rfl
    ·
     exact .leaf
    ·
     exact .leaf⟩
   have hlo := HL.out.lo
   obtain ⟨ld, hld⟩ : ∃ ld, ld = (VD.mk 4 false 0 [] la lc acc none 0 []) := ⟨_, rfl⟩
   have HLD : Hid (ValAt wr (fun g => P g ∧ g ≠ w.heap.size + 1) ld) := Lib.hid (by
    rw [hld]
    exact .mk hlo.row (Row.nil _ _ _) (fun g _ hg => by have := hlo.base hg; exact ⟨HP.out g (by omega), by omega⟩) (fun _ h => by simp at h) (fun y hy => (HL.out.vals y hy).mono fun g h _ => h.1))
   have HLV : Hid (ld.v = listW (c.changes.map editW)) := Lib.hid (by rw [hld, VD.v_eq]; show V.mk 4 false 0 [] (acc.map VD.v) [] = _; rw [HKC.out]; rfl)
   have HLB : Hid (Blk wr gl #[.int .i64 ld.sort, .bool ld.on, .int .i64 ld.n, .string ⟨ld.text.toArray⟩, .slice ld.a ld.list.length ld.c, .slice ld.ka ld.keys.length ld.kc] 36) := Lib.hid (by rw [hld]; exact HL.out.lb)
   clear hlo hld HL HKC
   obtain ⟨b0, b1, b2, b3, b4, b5⟩ := HLB.out.sixT
   go_upto_region 19 with (fail)
   obtain ⟨gm, hgm⟩ : ∃ gm, gm = wr.heap.size := ⟨_, rfl⟩
   obtain ⟨w8, hw8⟩ : ∃ w8, w8 = wr.alloc (.cells ([(kChanges, ld)].flatMap ptC).toArray 74) := ⟨_, rfl⟩
   have hb : Below wr.heap.size wr w8 := by rw [hw8]; exact below_a1 _ _
   have HPgm : Hid (PtsAt w8 (fun g => P g ∧ g ≠ w.heap.size + 1) (some ⟨gm, 0, none⟩) [(kChanges, ld)]) := Lib.hid ⟨by rw [hw8, hgm]; exact row_blk (Blk.new rfl) (flat_length ptC 7 ptC_len _), fun p hp => by
    simp only [List.mem_cons, List.mem_nil_iff, or_false] at hp
    rcases hp with rfl
    exact HLD.out.ext hb⟩
   have HOgm : Hid (Own w8 (w.heap.size + 2) 74 7 (some ⟨gm, 0, none⟩) [(kChanges, ld)].length [(kChanges, ld)].length ([(kChanges, ld)].flatMap ptC)) := Lib.hid (by have := HS.out.sz; rw [hw8, hgm]; exact own_blk (cs := ([(kChanges, ld)].flatMap ptC).toArray) (Blk.new rfl) (by omega) (by rw [List.size_toArray]; exact flat_length ptC 7 ptC_len _) (by simp [maxLen]))
   have HSn := Lib.hid (HS.out.ext hb)
   have HPgdn := Lib.hid (HPgd.out.ext hb)
   clear HPgd
   have HPgd := HPgdn
   clear HPgdn
   clear hb HS
   have HS := HSn
   clear HSn
   simp only [List.flatMap_cons, List.flatMap_nil] at hw8
   try simp only [ptC_str] at hw8
   try simp only [ptC_num] at hw8
   try simp only [ptC_of] at hw8
   try simp only [List.cons_append, List.nil_append] at hw8
   simp only [List.append_nil, kChanges] at hw8
   go_upto_region 22 with (fail)
   rw [← hw8, ← hgm]
   clear hw8 hgm b0 b1 b2 b3 b4 b5
   go_wp2_with fail
   have hR := record_any (fun g => P g ∧ g ≠ w.heap.size + 1) a7 c7 [(kUri, strD nm), (kVersion, numD ver)] w8 (HPP.out _ HS.out.sz) HPgd.out (by simp)
   simp only [List.length_cons, List.length_nil, Nat.zero_add, Nat.reduceAdd] at hR
   refine hR.mono ?_
   clear hR
   rintro e wr ⟨d1, rfl, hvd1, hdd1, hb⟩
   have HVd1 := Lib.hid hvd1
   have HDd1 := Lib.hid hdd1
   clear hvd1 hdd1
   have HSn := Lib.hid (HS.out.ext hb)
   have HPgmn := Lib.hid (HPgm.out.ext hb)
   clear HPgm
   have HPgm := HPgmn
   clear HPgmn
   clear hb HS
   have HS := HSn
   clear HSn
   go_wp2_with (at_builtin; refine wpList_append_Own rfl _ _ 75 rfl (w.heap.size + 2) 74 _ 7 104 Tryz.underlying75 Tryz.infoPart rfl (by decide) _ 1 1 [.string ⟨kDoc.toArray⟩, .int .i64 d1.sort, .bool d1.on, .int .i64 d1.n, .string ⟨d1.text.toArray⟩, .slice d1.a d1.list.length d1.c, .slice d1.ka d1.keys.length d1.kc] rfl (by exact own_blk (cs := #[.string ⟨kDoc.toArray⟩, .int .i64 d1.sort, .bool d1.on, .int .i64 d1.n, .string ⟨d1.text.toArray⟩, .slice d1.a d1.list.length d1.c, .slice d1.ka d1.keys.length d1.kc]) (Blk.new rfl) HS.out.sz rfl (by simp [maxLen])) (some ⟨gm, 0, none⟩) 1 1 ([(kChanges, ld)].flatMap ptC) rfl (HPgm.out.row.ext (below_a1 _ _)) ptC_one (by simp [maxLen]) (by simp) (by have := HS.out.sz; simp; omega) ?_; intro a5 c5 w5 ho5 hg5 hb5)
   have hb : Below wr.heap.size wr w5 := (below_a1 wr _).grown hg5 (by simp) (fun k hk => by simp [rowOf, blockOf] at hk; omega)
   have HR5 : Hid (Row w5 7 a5 ((kDoc, d1) :: [(kChanges, ld)]).length (((kDoc, d1) :: [(kChanges, ld)]).flatMap ptC)) := Lib.hid (by rw [List.flatMap_cons, ptC_of]; exact ho5.row)
   clear ho5 hg5 hb5
   have HSn := Lib.hid (HS.out.ext hb)
   have HDd1n := Lib.hid (HDd1.out.ext hb)
   clear HDd1
   have HDd1 := HDd1n
   clear HDd1n
   have HPgmn := Lib.hid (HPgm.out.ext hb)
   clear HPgm
   have HPgm := HPgmn
   clear HPgmn
   clear hb HS
   have HS := HSn
   clear HSn
   have HP5 : Hid (PtsAt w5 (fun g => P g ∧ g ≠ w.heap.size + 1) a5 ((kDoc, d1) :: [(kChanges, ld)])) := Lib.hid ⟨HR5.out, fun p hp => by
    rcases List.mem_cons.1 hp with rfl | hp
    ·
     exact HDd1.out
    ·
     exact HPgm.out.vals p hp⟩
   try simp only [Nat.reduceAdd]
   have hR := record_any (fun g => P g ∧ g ≠ w.heap.size + 1) a5 c5 ((kDoc, d1) :: [(kChanges, ld)]) w5 (HPP.out _ HS.out.sz) HP5.out (by simp)
   simp only [List.length_cons, List.length_nil, Nat.zero_add, Nat.reduceAdd] at hR
   refine hR.mono ?_
   clear hR
   rintro e wy ⟨d2, rfl, hvd2, hdd2, hb⟩
   have HVd2 := Lib.hid hvd2
   have HDd2 := Lib.hid hdd2
   clear hvd2 hdd2
   have HSn := Lib.hid (HS.out.ext hb)
   clear hb HS
   have HS := HSn
   clear HSn
   have f0 := HS.out.rblk.free 0
   have f1 := HS.out.rblk.free 1
   have f2 := HS.out.rblk.free 2
   have f3 := HS.out.rblk.free 3
   have f4 := HS.out.rblk.free 4
   have f5 := HS.out.rblk.free 5
   obtain ⟨z0, z1, z2, z3, z4, z5⟩ := HS.out.rblk.sixT
   go_wp2
   refine params_end (g := w.heap.size + 1) rfl (store6 HS.out.rblk) ?_
   refine docS (P := P) (o := 0) ?_ HDd2.out (fun g h => ⟨h.2, h.1⟩) HS.out.below (by omega)
   rw [HVd2.out, paramsW_5 _ (by show c.kind.toNat = 5; rw [HK.out]; rfl)]
   show recW [(kDoc, d1.v), (kChanges, ld.v)] = _
   rw [HVd1.out, HLV.out, HNM.out, HVER.out]
   rfl
end Go.Proofs.YthnbeebilomchaaGreatDoor
